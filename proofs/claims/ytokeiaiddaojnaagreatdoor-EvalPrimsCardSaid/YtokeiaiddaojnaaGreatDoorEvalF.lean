/- Evaluation: the reference's operations. -/
import Derived.Test.YtokeiaiddaojnaaGreatDoorEvalE
import Derived.Test.YtokeiaiddaojnaaGreatDoorStepA
import Derived.Test.YtokeiaiddaojnaaGreatDoorEvalB
set_option linter.unusedSimpArgs false
set_option linter.unusedVariables false
namespace Go.Abs.Kon
open Go Go.Proofs Go.Abs
set_option maxRecDepth 100000
set_option maxHeartbeats 400000
mutual
def encW:Th→PV
 | .mk op n s names l part env fix=>.agg ([.int .i64 op,.int .i64 n,.str s,.slice (names.map .str),.slice (encWs l)]++part.cells++[.slice (encWs env).reverse,.bool fix])
def encWs:List Th→List PV
 | []=>[]
 |c::l=>encW c::encWs l
end
theorem encWs_map:∀l,encWs l=l.map encW
 | []=>rfl
 |c::l=>by simp[encWs,encWs_map l]
theorem encW_mk (op n:Int) (s:ByteArray) (names:List ByteArray) (l:List Th) (part:TermT) (env:List Th) (fix:Bool):encW (.mk op n s names l part env fix)=.agg [.int .i64 op,.int .i64 n,.str s,.slice (names.map .str),.slice (l.map encW),
   .int .i64 part.op,.int .i64 part.n,.str part.s,.int .i64 part.con.op,.int .i64 part.con.n,.str part.con.s,.slice (part.con.k.map encK),.slice (part.con.names.map .str),.slice (part.con.l.map encC),
     .int .i64 part.to.op,.int .i64 part.to.n,.str part.to.s,.slice (part.to.k.map encK),.slice (part.to.names.map .str),.slice (part.to.l.map encC),.slice (part.k.map encK),.slice (part.names.map .str),.slice (part.l.map encT),.slice (env.map encW).reverse,.bool fix]:=by
 rw[encW,encWs_map,encWs_map];rfl
@[go_sem] theorem encW_sz (v:Th):PV.hasSz (.agg 25) (encW v)=true:=by
 cases v with
 |mk op n s names l part env fix=>rw[encW_mk];rfl
theorem encW_z:zeroH=.mk 0 0 ByteArray.empty [] [] zeroT [] false:=rfl
def stB (t F st:Nat) (out:List ByteArray) (e m:Int):Box:=⟨.agg 5,.agg [.pv (.int .i64 F),.pv (.int .i64 st),.own t .one (strs out),.pv (.int .i64 e),.pv (.int .i64 m)]⟩
theorem encW_simple (op n:Int) (s:ByteArray) (names:List ByteArray) (l:List Th):encW (.mk op n s names l zeroT [] false)=.agg [.int .i64 op,.int .i64 n,.str s,.slice (names.map .str),.slice (l.map encW),
   .int .i64 0,.int .i64 0,.str ByteArray.empty,.int .i64 0,.int .i64 0,.str ByteArray.empty,.slice [],.slice [],.slice [],.int .i64 0,.int .i64 0,.str ByteArray.empty,.slice [],.slice [],.slice [],.slice [],.slice [],.slice [],.slice [],.bool false]:=by
 rw[encW_mk];rfl
def encS (F t:Nat):Ev→Res
 | .ok v st out=>.ret (encW v) [stB t F st out 0 0]
 | .bad op n st out=>.ret (encW zeroH) [stB t F st out op n]
theorem SpecR.walkS {P:Program}{f:FuncId}{fn:Func}{c:Code}{rv:List ResultVar}{args:List SV}{b:Box}{r:Ev}{F t:Nat}(A:Ann) (n:Nat) (hf:P.funcs[f]? = some fn) (hm:P.follows .mixedOrders=true) (hb:fn.body=some c) (hr:fn.results.toList=rv)
   (hk:fnChk fn n args.length c=true) (h:argsFit args→AWp P A c (Go.Abs.finT P rv (encS F 0 r)) (start args [b])):SpecR P f args [b] (encS F t r):=by
 cases r with
 |ok v st out=>exact SpecR.walkT (res:=encS F 0 (.ok v st out)) t A n hf hm hb hr hk rfl rfl rfl h
 |bad op m st out=>exact SpecR.walkT (res:=encS F 0 (.bad op m st out)) t A n hf hm hb hr hk rfl rfl rfl h
theorem wS {f:FuncId}{fn:Func}{c:Code}{rv:List ResultVar}{args:List SV}{b:Box}{r:Ev}{F t:Nat}(A:Ann) (n:Nat) (hf:Tryz.prog.funcs[f]? = some fn) (h:AWp Tryz.prog A c (Go.Abs.finT Tryz.prog rv (encS F 0 r)) (start args [b])) (hb:fn.body=some c:=by exact rfl) (hr:fn.results.toList=rv:=by exact rfl) (hk:fnChk fn n args.length c=true:=by kernel_rfl):SpecR Tryz.prog f args [b] (encS F t r):=
 SpecR.walkS A n hf mixed hb hr hk fun _=>h
theorem SpecR.st_in {P:Program}{f:FuncId}{args:List SV}{F st:Nat}{out:List ByteArray}{e m:Int}{res:Res}(t:Nat) (ha:args.flatMap svToks=[]) (h:SpecR P f args [stB 0 F st out e m] res):SpecR P f args [stB t F st out e m] res:=
 SpecR.tok_in (refs:=[stB 0 F st out e m]) (t1:=0) t rfl rfl ha h
theorem encS_ok (F t:Nat) (v:Th) (st:Nat) (out:List ByteArray):encS F t (.ok v st out)=.ret (encW v) [stB t F st out 0 0]:=rfl
theorem encS_bad (F t:Nat) (op n:Int) (st:Nat) (out:List ByteArray):encS F t (.bad op n st out)=.ret (encW zeroH) [stB t F st out op n]:=rfl
theorem stop_spec (t F st:Nat) (out:List ByteArray) (k n:Int) (T:Nat):SpecR Tryz.prog 80 [.one (.ptr (.ref 0) 0),ii k,ii n] [stB t F st out 0 0] (encS F T (.bad k n st out)):=by
 refine SpecR.st_in t rfl ?_
 refine wS (rv:=[.cell 6 83]) ann80 21 Tryz.func80 ?_
 simp only[go_sem,stB,encS_bad,finT_def,encW_z,encW_simple,List.map_nil]
 exact ⟨_,rfl⟩
theorem runit_spec:Spec Tryz.prog 105 [] [] (encW unitH) []:=by
 refine wk (rv:=[.cell 0 83]) ann105 2 Tryz.func105 ?_
 simp only[go_sem,unitH,recH,encW_simple,List.map_nil]
theorem rtruth_spec (b:Bool):Spec Tryz.prog 102 [bb b] [] (encW (truthH b)) []:=by
 refine wk (rv:=[.cell 2 83]) ann102 11 Tryz.func102 ?_
 cases b with
 |true=>
   simp only[go_sem]
   refine aCall_intro runit_spec ?_
   simp only[go_sem,truthH,rollH,injH,trueS,encW_simple,List.map_cons,List.map_nil]
 |false=>
   simp only[go_sem]
   refine aCall_intro runit_spec ?_
   simp only[go_sem,truthH,rollH,injH,falseS,encW_simple,List.map_cons,List.map_nil]
theorem rnumber_spec (t F st:Nat) (out:List ByteArray) (n:Int) (T:Nat):SpecR Tryz.prog 100 [.one (.ptr (.ref 0) 0),ii n] [stB t F st out 0 0] (encS F T (endP st out (numP n))):=by
 refine SpecR.st_in t rfl ?_
 unfold numP
 by_cases h:n>4503599627370496∨n < -4503599627370496
 · rw[if_pos h,endP]
   refine wS (rv:=[.cell 4 83]) ann100 15 Tryz.func100 ?_
   by_cases h1:n>4503599627370496
   · have d1:decide (n>4503599627370496)=true:=decide_eq_true h1
     simp only[go_sem,stB,d1]
     refine aCall_res (stop_spec 0 F st out 2 2 0) ?_
     simp only[go_sem,stB,encS_bad,finT_def]
     exact ⟨_,rfl⟩
   · have d1:decide (n>4503599627370496)=false:=decide_eq_false h1
     have d2:decide (n < -4503599627370496)=true:=decide_eq_true (h.resolve_left h1)
     simp only[go_sem,stB,d1,d2]
     refine aCall_res (stop_spec 0 F st out 2 2 0) ?_
     simp only[go_sem,stB,encS_bad,finT_def]
     exact ⟨_,rfl⟩
 · rw[if_neg h,endP]
   refine wS (rv:=[.cell 4 83]) ann100 15 Tryz.func100 ?_
   have d1:decide (n>4503599627370496)=false:=decide_eq_false fun e=>h (.inl e)
   have d2:decide (n < -4503599627370496)=false:=decide_eq_false fun e=>h (.inr e)
   simp only[go_sem,stB,d1,d2,intH,encS_ok,encW_simple,List.map_nil,finT_def]
   exact ⟨_,rfl⟩
theorem rtext_spec (t F st:Nat) (out:List ByteArray) (s:ByteArray) (T:Nat):SpecR Tryz.prog 103 [.one (.ptr (.ref 0) 0),pp (.str s)] [stB t F st out 0 0] (encS F T (endP st out (txtP s))):=by
 refine SpecR.st_in t rfl ?_
 unfold txtP
 by_cases h:s.size>16384
 · rw[if_pos h,endP]
   refine wS (rv:=[.cell 4 83]) ann103 12 Tryz.func103 ?_
   have d1:decide ((s.size:Int)>16384)=true:=decide_eq_true (by omega)
   simp only[go_sem,stB,d1]
   refine aCall_res (stop_spec 0 F st out 2 2 0) ?_
   simp only[go_sem,stB,encS_bad,finT_def]
   exact ⟨_,rfl⟩
 · rw[if_neg h,endP]
   refine wS (rv:=[.cell 4 83]) ann103 12 Tryz.func103 ?_
   have d1:decide ((s.size:Int)>16384)=false:=decide_eq_false (by omega)
   simp only[go_sem,stB,d1,txtH,encS_ok,encW_simple,List.map_nil,finT_def]
   exact ⟨_,rfl⟩
def timesP (a b:Int):Int:=if a≠0∧b≠0∧absP a>(4503599627370496:Int).tdiv (absP b) then 4503599627370497 else a*b
theorem lim_iff (x y:Int) (hy:0<y):x>(4503599627370496:Int).tdiv y↔x*y>4503599627370496:=by
 rw[Int.tdiv_eq_ediv_of_nonneg (by omega)]
 exact Int.ediv_lt_iff_lt_mul hy
theorem absP_pos {a:Int}(h:a≠0):0<absP a:=by unfold absP;split<;>omega
theorem mul_times (a b:Int):mulP a b=numP (timesP a b):=by
 unfold mulP timesP
 by_cases h0:a=0
 · subst h0;rw[if_neg (fun h=>h.1 rfl),if_neg (fun h=>h.1 rfl)]
 by_cases h1:b=0
 · subst h1
   rw[if_neg (c:=a≠0∧(0:Int)≠0∧_) (fun h=>h.2.1 rfl),if_neg]
   rintro ⟨_,h⟩
   rw[lim_iff _ _ (absP_pos h0)] at h
   have:absP 0=0:=rfl
   rw[this,Int.zero_mul] at h
   omega
 by_cases h:absP a*absP b>4503599627370496
 · rw[if_pos ⟨h0,(lim_iff _ _ (absP_pos h0)).2 (by rw[Int.mul_comm];exact h)⟩,if_pos ⟨h0,h1,(lim_iff _ _ (absP_pos h1)).2 h⟩]
   rfl
 · rw[if_neg (fun e=>h (by have:=(lim_iff _ _ (absP_pos h0)).1 e.2;rw[Int.mul_comm] at this;exact this)),if_neg (fun e=>h ((lim_iff _ _ (absP_pos h1)).1 e.2.2))]
theorem rtimes_spec (a b:Int) (a1:-4503599627370496≤a) (a2:a≤4503599627370496) (b1:-4503599627370496≤b) (b2:b≤4503599627370496):Spec Tryz.prog 101 [ii a,ii b] [] (.int .i64 (timesP a b)) []:=by
 have w1:IntKind.i64.wrap (0 - a)=-a:=by rw[wrapI (by omega) (by omega)];omega
 have w2:IntKind.i64.wrap (0 - b)=-b:=by rw[wrapI (by omega) (by omega)];omega
 unfold timesP
 by_cases h0:a=0
 · subst h0
   rw[if_neg (fun h=>h.1 rfl)]
   refine wk (rv:=[.tmp 4]) ann101 28 Tryz.func101 ?_
   have w3:IntKind.i64.wrap (0*b)=0*b:=by rw[Int.zero_mul];rfl
   have d0:((0:Int) != 0)=false:=rfl
   simp only[go_sem,w3,d0]
 by_cases h1:b=0
 · subst h1
   rw[if_neg (fun h=>h.2.1 rfl)]
   refine wk (rv:=[.tmp 4]) ann101 28 Tryz.func101 ?_
   have w3:IntKind.i64.wrap (a*0)=a*0:=by rw[Int.mul_zero];rfl
   have d0:((0:Int) != 0)=false:=rfl
   have d1:(a != 0)=true:=by simp[h0]
   simp only[go_sem,w3,d0,d1]
 have hp:=absP_le a1 a2
 have hq:=absP_le b1 b2
 have hpos:=absP_pos h1
 have d0:(a != 0)=true:=by simp[h0]
 have d1:(b != 0)=true:=by simp[h1]
 have m1:(if -a>a then -a else a)=absP a:=rfl
 have m2:(if -b>b then -b else b)=absP b:=rfl
 have t0:0≤(4503599627370496:Int).tdiv (absP b):=Int.tdiv_nonneg (by omega) hq.1
 have t1:(4503599627370496:Int).tdiv (absP b)≤4503599627370496:=by
   rw[Int.tdiv_eq_ediv_of_nonneg (by omega)]
   exact Int.ediv_le_self _ (by omega)
 have w4:IntKind.i64.wrap ((4503599627370496:Int).tdiv (absP b))=(4503599627370496:Int).tdiv (absP b):=wrapI (by omega) (by omega)
 have e0:(absP b=0)=False:=by simp;omega
 by_cases h:absP a>(4503599627370496:Int).tdiv (absP b)
 · rw[if_pos ⟨h0,h1,h⟩]
   refine wk (rv:=[.tmp 4]) ann101 28 Tryz.func101 ?_
   have d2:decide (absP a>(4503599627370496:Int).tdiv (absP b))=true:=decide_eq_true h
   simp only[go_sem,d0,d1,w1,w2,m1,m2,e0,w4,d2]
 · rw[if_neg (fun e=>h e.2.2)]
   have d2:decide (absP a>(4503599627370496:Int).tdiv (absP b))=false:=decide_eq_false h
   have hab:absP a*absP b≤4503599627370496:=by
     have:=mt (lim_iff (absP a) (absP b) hpos).2 h
     omega
   have hm:∀x y:Int,x=absP a∨x=-absP a→y=absP b∨y=-absP b→-4503599627370496≤x*y∧x*y≤4503599627370496:=by
     have hnn:=Int.mul_nonneg hp.1 hq.1
     rintro x y (rfl|rfl) (rfl|rfl)
     · omega
     · rw[Int.mul_neg];omega
     · rw[Int.neg_mul];omega
     · rw[Int.neg_mul,Int.mul_neg];omega
   have hs2:∀x:Int,x=absP x∨x=-absP x:=by intro x;unfold absP;split<;>omega
   have hb:=hm a b (hs2 a) (hs2 b)
   have w5:IntKind.i64.wrap (a*b)=a*b:=wrapI (by omega) (by omega)
   refine wk (rv:=[.tmp 4]) ann101 28 Tryz.func101 ?_
   simp only[go_sem,d0,d1,w1,w2,m1,m2,e0,w4,d2,w5]
theorem rshow_spec (n:Int) (h1:-4503599627370496≤n) (h2:n≤4503599627370496):Spec Tryz.prog 104 [ii n] [] (.str (showB n)) []:=by
 by_cases h:n<0
 · have hD:=DecimalAll_spec n.natAbs (by omega)
   have e1:((n.natAbs:Nat):Int)=0 - n:=by omega
   have w:IntKind.i64.wrap (0 - n)=0 - n:=wrap_id (by omega) (by omega)
   have e2:showB n=ByteArray.mk #[45]++showB (0 - n):=by
     rw[←e1,show_nat,bytes_cons,←Lib.itoa_neg _ (by omega),e1,showB]
     rw[show -(0 - n)=n by omega]
   have hsz:(ByteArray.mk #[45]).size+(showB (0 - n)).size≤9223372036854775807:=by
     have:=Lib.itoa_length_le (0 - n) (by omega) (by omega)
     have e1:(showB (0 - n)).size=(Lib.itoa (0 - n)).length:=by rw[showB];simp[ByteArray.size]
     have e2:(ByteArray.mk #[45]).size=1:=rfl
     rw[e1,e2];omega
   rw[e2]
   rw[e1] at hD
   generalize showB (0 - n)=r at hD hsz ⊢
   refine wk (rv:=[.tmp 2]) ann104 11 Tryz.func104 ?_
   simp only[go_sem,decide_eq_true h,w]
   have hsz':1+r.size≤9223372036854775807:=hsz
   refine aCall_intro hD ?_
   simp only[go_sem,hsz,hsz',if_true]
 · have hD:=DecimalAll_spec n.toNat (by omega)
   rw[Int.toNat_of_nonneg (by omega)] at hD
   refine wk (rv:=[.tmp 2]) ann104 11 Tryz.func104 ?_
   simp only[go_sem,decide_eq_false h]
   refine aCall_intro hD ?_
   simp only[go_sem]
end Go.Abs.Kon
namespace Go.Abs.Kon
open Go Go.Proofs Go.Abs
set_option maxRecDepth 100000
set_option maxHeartbeats 400000
end Go.Abs.Kon
namespace Go.Abs.Kon
open Go Go.Proofs Go.Abs
set_option maxRecDepth 100000
set_option maxHeartbeats 400000
def primS (k:Int) (l:List Th) (st:Nat) (out:List ByteArray):Ev:=
 if k=14 then (if out.length=1000 then .bad 2 2 st out else .ok unitH st (out++[(l.head?.getD zeroH).s])) else
 endP st out (primP k (l.head?.getD zeroH) (lastH l))
theorem rprim_1 (F st:Nat) (out:List ByteArray) (op1 n1:Int) (s1:ByteArray) (names1:List ByteArray) (l1:List Th) (part1:TermT) (env1:List Th) (fix1:Bool) (op2 n2:Int) (s2:ByteArray) (names2:List ByteArray) (l2:List Th) (part2:TermT) (env2:List Th) (fix2:Bool) (hn1:-4503599627370496≤n1∧n1≤4503599627370496) (hn2:-4503599627370496≤n2∧n2≤4503599627370496) (T:Nat) :
   SpecR Tryz.prog 57 [.one (.ptr (.ref 0) 0),ii 1,pp (.slice ([(.mk op1 n1 s1 names1 l1 part1 env1 fix1),(.mk op2 n2 s2 names2 l2 part2 env2 fix2)].map encW))] [stB 0 F st out 0 0] (encS F T (endP st out (numP (n1+n2)))):=by
 have w1:IntKind.i64.wrap (n1+n2)=n1+n2:=wrapI (by omega) (by omega)
 have hs:=rnumber_spec 0 F st out (n1+n2) 0
 generalize endP st out (numP (n1+n2))=r at hs ⊢
 refine wS (rv:=[.cell 6 83]) ann57 154 Tryz.func57 ?_
 simp only[go_sem,stB,encW_mk,w1]
 iterate 8 (try (refine ⟨by kernel_rfl,?_⟩))
 try simp only[go_sem,stB,encW_mk,w1]
 refine aCall_res hs ?_
 cases r with
 |ok v st1 out1=>simp only[go_sem,stB,encS_ok,finT_def];exact ⟨_,rfl⟩
 |bad op1 m1 st1 out1=>simp only[go_sem,stB,encS_bad,finT_def];exact ⟨_,rfl⟩
theorem rprim_2 (F st:Nat) (out:List ByteArray) (op1 n1:Int) (s1:ByteArray) (names1:List ByteArray) (l1:List Th) (part1:TermT) (env1:List Th) (fix1:Bool) (op2 n2:Int) (s2:ByteArray) (names2:List ByteArray) (l2:List Th) (part2:TermT) (env2:List Th) (fix2:Bool) (hn1:-4503599627370496≤n1∧n1≤4503599627370496) (hn2:-4503599627370496≤n2∧n2≤4503599627370496) (T:Nat) :
   SpecR Tryz.prog 57 [.one (.ptr (.ref 0) 0),ii 2,pp (.slice ([(.mk op1 n1 s1 names1 l1 part1 env1 fix1),(.mk op2 n2 s2 names2 l2 part2 env2 fix2)].map encW))] [stB 0 F st out 0 0] (encS F T (endP st out (numP (n1 - n2)))):=by
 have w1:IntKind.i64.wrap (n1 - n2)=n1 - n2:=wrapI (by omega) (by omega)
 have hs:=rnumber_spec 0 F st out (n1 - n2) 0
 generalize endP st out (numP (n1 - n2))=r at hs ⊢
 refine wS (rv:=[.cell 6 83]) ann57 154 Tryz.func57 ?_
 simp only[go_sem,stB,encW_mk,w1]
 iterate 8 (try (refine ⟨by kernel_rfl,?_⟩))
 try simp only[go_sem,stB,encW_mk,w1]
 refine aCall_res hs ?_
 cases r with
 |ok v st1 out1=>simp only[go_sem,stB,encS_ok,finT_def];exact ⟨_,rfl⟩
 |bad op1 m1 st1 out1=>simp only[go_sem,stB,encS_bad,finT_def];exact ⟨_,rfl⟩
theorem rprim_3 (F st:Nat) (out:List ByteArray) (op1 n1:Int) (s1:ByteArray) (names1:List ByteArray) (l1:List Th) (part1:TermT) (env1:List Th) (fix1:Bool) (op2 n2:Int) (s2:ByteArray) (names2:List ByteArray) (l2:List Th) (part2:TermT) (env2:List Th) (fix2:Bool) (hn1:-4503599627370496≤n1∧n1≤4503599627370496) (hn2:-4503599627370496≤n2∧n2≤4503599627370496) (T:Nat) :
   SpecR Tryz.prog 57 [.one (.ptr (.ref 0) 0),ii 3,pp (.slice ([(.mk op1 n1 s1 names1 l1 part1 env1 fix1),(.mk op2 n2 s2 names2 l2 part2 env2 fix2)].map encW))] [stB 0 F st out 0 0] (encS F T (endP st out (numP (timesP n1 n2)))):=by
 have hs:=rnumber_spec 0 F st out (timesP n1 n2) 0
 generalize endP st out (numP (timesP n1 n2))=r at hs ⊢
 refine wS (rv:=[.cell 6 83]) ann57 154 Tryz.func57 ?_
 simp only[go_sem,stB,encW_mk]
 iterate 8 (try (refine ⟨by kernel_rfl,?_⟩))
 try simp only[go_sem,stB,encW_mk]
 refine aCall_intro (rtimes_spec n1 n2 hn1.1 hn1.2 hn2.1 hn2.2) ?_
 simp only[go_sem,stB]
 refine aCall_res hs ?_
 cases r with
 |ok v st1 out1=>simp only[go_sem,stB,encS_ok,finT_def];exact ⟨_,rfl⟩
 |bad op1 m1 st1 out1=>simp only[go_sem,stB,encS_bad,finT_def];exact ⟨_,rfl⟩
theorem rprim_4 (F st:Nat) (out:List ByteArray) (op1 n1:Int) (s1:ByteArray) (names1:List ByteArray) (l1:List Th) (part1:TermT) (env1:List Th) (fix1:Bool) (op2 n2:Int) (s2:ByteArray) (names2:List ByteArray) (l2:List Th) (part2:TermT) (env2:List Th) (fix2:Bool) (hn1:-4503599627370496≤n1∧n1≤4503599627370496) (hn2:-4503599627370496≤n2∧n2≤4503599627370496) (h0:n2≠0) (T:Nat) :
   SpecR Tryz.prog 57 [.one (.ptr (.ref 0) 0),ii 4,pp (.slice ([(.mk op1 n1 s1 names1 l1 part1 env1 fix1),(.mk op2 n2 s2 names2 l2 part2 env2 fix2)].map encW))] [stB 0 F st out 0 0] (encS F T (endP st out (numP (n1.tdiv n2)))):=by
 have d0:(n2==0)=false:=by rw[beq_eq_false_iff_ne];exact h0
 have e0:(n2=0)=False:=by simp[h0]
 have w1:=tdiv_wrap n1 n2 hn1.1 hn1.2
 have hs:=rnumber_spec 0 F st out (n1.tdiv n2) 0
 generalize endP st out (numP (n1.tdiv n2))=r at hs ⊢
 refine wS (rv:=[.cell 6 83]) ann57 154 Tryz.func57 ?_
 simp only[go_sem,stB,encW_mk,w1,d0,e0]
 iterate 8 (try (refine ⟨by kernel_rfl,?_⟩))
 try simp only[go_sem,stB,encW_mk,w1,d0,e0]
 refine aCall_res hs ?_
 cases r with
 |ok v st1 out1=>simp only[go_sem,stB,encS_ok,finT_def];exact ⟨_,rfl⟩
 |bad op1 m1 st1 out1=>simp only[go_sem,stB,encS_bad,finT_def];exact ⟨_,rfl⟩
theorem rprim_4z (F st:Nat) (out:List ByteArray) (op1 n1:Int) (s1:ByteArray) (names1:List ByteArray) (l1:List Th) (part1:TermT) (env1:List Th) (fix1:Bool) (op2 n2:Int) (s2:ByteArray) (names2:List ByteArray) (l2:List Th) (part2:TermT) (env2:List Th) (fix2:Bool) (h0:n2=0) (T:Nat) :
   SpecR Tryz.prog 57 [.one (.ptr (.ref 0) 0),ii 4,pp (.slice ([(.mk op1 n1 s1 names1 l1 part1 env1 fix1),(.mk op2 n2 s2 names2 l2 part2 env2 fix2)].map encW))] [stB 0 F st out 0 0] (encS F T (.bad 2 3 st out)):=by
 have d0:(n2==0)=true:=by rw[h0];rfl
 refine wS (rv:=[.cell 6 83]) ann57 154 Tryz.func57 ?_
 simp only[go_sem,stB,encW_mk,d0]
 iterate 8 (try (refine ⟨by kernel_rfl,?_⟩))
 try simp only[go_sem,stB,encW_mk,d0]
 refine aCall_res (stop_spec 0 F st out 2 3 0) ?_
 simp only[go_sem,stB,encS_bad,finT_def]
 exact ⟨_,rfl⟩
theorem rprim_5 (F st:Nat) (out:List ByteArray) (op1 n1:Int) (s1:ByteArray) (names1:List ByteArray) (l1:List Th) (part1:TermT) (env1:List Th) (fix1:Bool) (op2 n2:Int) (s2:ByteArray) (names2:List ByteArray) (l2:List Th) (part2:TermT) (env2:List Th) (fix2:Bool) (hn1:-4503599627370496≤n1∧n1≤4503599627370496) (hn2:-4503599627370496≤n2∧n2≤4503599627370496) (h0:n2≠0) (T:Nat) :
   SpecR Tryz.prog 57 [.one (.ptr (.ref 0) 0),ii 5,pp (.slice ([(.mk op1 n1 s1 names1 l1 part1 env1 fix1),(.mk op2 n2 s2 names2 l2 part2 env2 fix2)].map encW))] [stB 0 F st out 0 0] (encS F T (endP st out (numP (n1.tmod n2)))):=by
 have d0:(n2==0)=false:=by rw[beq_eq_false_iff_ne];exact h0
 have e0:(n2=0)=False:=by simp[h0]
 have hs:=rnumber_spec 0 F st out (n1.tmod n2) 0
 generalize endP st out (numP (n1.tmod n2))=r at hs ⊢
 refine wS (rv:=[.cell 6 83]) ann57 154 Tryz.func57 ?_
 simp only[go_sem,stB,encW_mk,d0,e0]
 iterate 8 (try (refine ⟨by kernel_rfl,?_⟩))
 try simp only[go_sem,stB,encW_mk,d0,e0]
 refine aCall_res hs ?_
 cases r with
 |ok v st1 out1=>simp only[go_sem,stB,encS_ok,finT_def];exact ⟨_,rfl⟩
 |bad op1 m1 st1 out1=>simp only[go_sem,stB,encS_bad,finT_def];exact ⟨_,rfl⟩
theorem rprim_5z (F st:Nat) (out:List ByteArray) (op1 n1:Int) (s1:ByteArray) (names1:List ByteArray) (l1:List Th) (part1:TermT) (env1:List Th) (fix1:Bool) (op2 n2:Int) (s2:ByteArray) (names2:List ByteArray) (l2:List Th) (part2:TermT) (env2:List Th) (fix2:Bool) (h0:n2=0) (T:Nat) :
   SpecR Tryz.prog 57 [.one (.ptr (.ref 0) 0),ii 5,pp (.slice ([(.mk op1 n1 s1 names1 l1 part1 env1 fix1),(.mk op2 n2 s2 names2 l2 part2 env2 fix2)].map encW))] [stB 0 F st out 0 0] (encS F T (.bad 2 3 st out)):=by
 have d0:(n2==0)=true:=by rw[h0];rfl
 refine wS (rv:=[.cell 6 83]) ann57 154 Tryz.func57 ?_
 simp only[go_sem,stB,encW_mk,d0]
 iterate 8 (try (refine ⟨by kernel_rfl,?_⟩))
 try simp only[go_sem,stB,encW_mk,d0]
 refine aCall_res (stop_spec 0 F st out 2 3 0) ?_
 simp only[go_sem,stB,encS_bad,finT_def]
 exact ⟨_,rfl⟩
theorem rprim_6 (F st:Nat) (out:List ByteArray) (op1 n1:Int) (s1:ByteArray) (names1:List ByteArray) (l1:List Th) (part1:TermT) (env1:List Th) (fix1:Bool) (hn1:-4503599627370496≤n1∧n1≤4503599627370496) (T:Nat) :
   SpecR Tryz.prog 57 [.one (.ptr (.ref 0) 0),ii 6,pp (.slice ([(.mk op1 n1 s1 names1 l1 part1 env1 fix1)].map encW))] [stB 0 F st out 0 0] (encS F T (endP st out (numP (-n1)))):=by
 have w1:IntKind.i64.wrap (0 - n1)=-n1:=by rw[wrapI (by omega) (by omega)];omega
 have hs:=rnumber_spec 0 F st out (-n1) 0
 generalize endP st out (numP (-n1))=r at hs ⊢
 refine wS (rv:=[.cell 6 83]) ann57 154 Tryz.func57 ?_
 simp only[go_sem,stB,encW_mk,w1]
 iterate 8 (try (refine ⟨by kernel_rfl,?_⟩))
 try simp only[go_sem,stB,encW_mk,w1]
 refine aCall_res hs ?_
 cases r with
 |ok v st1 out1=>simp only[go_sem,stB,encS_ok,finT_def];exact ⟨_,rfl⟩
 |bad op1 m1 st1 out1=>simp only[go_sem,stB,encS_bad,finT_def];exact ⟨_,rfl⟩
theorem rprim_7 (F st:Nat) (out:List ByteArray) (op1 n1:Int) (s1:ByteArray) (names1:List ByteArray) (l1:List Th) (part1:TermT) (env1:List Th) (fix1:Bool) (op2 n2:Int) (s2:ByteArray) (names2:List ByteArray) (l2:List Th) (part2:TermT) (env2:List Th) (fix2:Bool) (T:Nat) :
   SpecR Tryz.prog 57 [.one (.ptr (.ref 0) 0),ii 7,pp (.slice ([(.mk op1 n1 s1 names1 l1 part1 env1 fix1),(.mk op2 n2 s2 names2 l2 part2 env2 fix2)].map encW))] [stB 0 F st out 0 0] (encS F T (.ok (truthH (decide (n1<n2))) st out)):=by
 generalize hb:(decide (n1<n2))=b
 refine wS (rv:=[.cell 6 83]) ann57 154 Tryz.func57 ?_
 simp only[go_sem,stB,encW_mk,hb]
 iterate 8 (try (refine ⟨by kernel_rfl,?_⟩))
 try simp only[go_sem,stB,encW_mk,hb]
 refine aCall_intro (rtruth_spec b) ?_
 simp only[go_sem,stB,encS_ok,finT_def]
 exact ⟨_,rfl⟩
theorem rprim_8 (F st:Nat) (out:List ByteArray) (op1 n1:Int) (s1:ByteArray) (names1:List ByteArray) (l1:List Th) (part1:TermT) (env1:List Th) (fix1:Bool) (op2 n2:Int) (s2:ByteArray) (names2:List ByteArray) (l2:List Th) (part2:TermT) (env2:List Th) (fix2:Bool) (T:Nat) :
   SpecR Tryz.prog 57 [.one (.ptr (.ref 0) 0),ii 8,pp (.slice ([(.mk op1 n1 s1 names1 l1 part1 env1 fix1),(.mk op2 n2 s2 names2 l2 part2 env2 fix2)].map encW))] [stB 0 F st out 0 0] (encS F T (.ok (truthH (decide (n1≤n2))) st out)):=by
 generalize hb:(decide (n1≤n2))=b
 refine wS (rv:=[.cell 6 83]) ann57 154 Tryz.func57 ?_
 simp only[go_sem,stB,encW_mk,hb]
 iterate 8 (try (refine ⟨by kernel_rfl,?_⟩))
 try simp only[go_sem,stB,encW_mk,hb]
 refine aCall_intro (rtruth_spec b) ?_
 simp only[go_sem,stB,encS_ok,finT_def]
 exact ⟨_,rfl⟩
theorem rprim_9 (F st:Nat) (out:List ByteArray) (op1 n1:Int) (s1:ByteArray) (names1:List ByteArray) (l1:List Th) (part1:TermT) (env1:List Th) (fix1:Bool) (op2 n2:Int) (s2:ByteArray) (names2:List ByteArray) (l2:List Th) (part2:TermT) (env2:List Th) (fix2:Bool) (T:Nat) :
   SpecR Tryz.prog 57 [.one (.ptr (.ref 0) 0),ii 9,pp (.slice ([(.mk op1 n1 s1 names1 l1 part1 env1 fix1),(.mk op2 n2 s2 names2 l2 part2 env2 fix2)].map encW))] [stB 0 F st out 0 0] (encS F T (.ok (truthH (n1==n2)) st out)):=by
 generalize hb:(n1==n2)=b
 refine wS (rv:=[.cell 6 83]) ann57 154 Tryz.func57 ?_
 simp only[go_sem,stB,encW_mk,hb]
 iterate 8 (try (refine ⟨by kernel_rfl,?_⟩))
 try simp only[go_sem,stB,encW_mk,hb]
 refine aCall_intro (rtruth_spec b) ?_
 simp only[go_sem,stB,encS_ok,finT_def]
 exact ⟨_,rfl⟩
theorem rprim_10 (F st:Nat) (out:List ByteArray) (op1 n1:Int) (s1:ByteArray) (names1:List ByteArray) (l1:List Th) (part1:TermT) (env1:List Th) (fix1:Bool) (op2 n2:Int) (s2:ByteArray) (names2:List ByteArray) (l2:List Th) (part2:TermT) (env2:List Th) (fix2:Bool) (hz1:s1.size≤16384) (hz2:s2.size≤16384) (T:Nat) :
   SpecR Tryz.prog 57 [.one (.ptr (.ref 0) 0),ii 10,pp (.slice ([(.mk op1 n1 s1 names1 l1 part1 env1 fix1),(.mk op2 n2 s2 names2 l2 part2 env2 fix2)].map encW))] [stB 0 F st out 0 0] (encS F T (endP st out (txtP (s1++s2)))):=by
 have e0:(s1.size+s2.size≤9223372036854775807)=True:=by simp;omega
 have hs:=rtext_spec 0 F st out (s1++s2) 0
 generalize endP st out (txtP (s1++s2))=r at hs ⊢
 refine wS (rv:=[.cell 6 83]) ann57 154 Tryz.func57 ?_
 simp only[go_sem,stB,encW_mk,e0]
 iterate 8 (try (refine ⟨by kernel_rfl,?_⟩))
 try simp only[go_sem,stB,encW_mk,e0]
 refine aCall_res hs ?_
 cases r with
 |ok v st1 out1=>simp only[go_sem,stB,encS_ok,finT_def];exact ⟨_,rfl⟩
 |bad op1 m1 st1 out1=>simp only[go_sem,stB,encS_bad,finT_def];exact ⟨_,rfl⟩
theorem rprim_11 (F st:Nat) (out:List ByteArray) (op1 n1:Int) (s1:ByteArray) (names1:List ByteArray) (l1:List Th) (part1:TermT) (env1:List Th) (fix1:Bool) (T:Nat) :
   SpecR Tryz.prog 57 [.one (.ptr (.ref 0) 0),ii 11,pp (.slice ([(.mk op1 n1 s1 names1 l1 part1 env1 fix1)].map encW))] [stB 0 F st out 0 0] (encS F T (endP st out (numP (s1.size:Int)))):=by
 have hs:=rnumber_spec 0 F st out ((s1.size:Int)) 0
 generalize endP st out (numP ((s1.size:Int)))=r at hs ⊢
 refine wS (rv:=[.cell 6 83]) ann57 154 Tryz.func57 ?_
 simp only[go_sem,stB,encW_mk]
 iterate 8 (try (refine ⟨by kernel_rfl,?_⟩))
 try simp only[go_sem,stB,encW_mk]
 refine aCall_res hs ?_
 cases r with
 |ok v st1 out1=>simp only[go_sem,stB,encS_ok,finT_def];exact ⟨_,rfl⟩
 |bad op1 m1 st1 out1=>simp only[go_sem,stB,encS_bad,finT_def];exact ⟨_,rfl⟩
theorem rprim_12 (F st:Nat) (out:List ByteArray) (op1 n1:Int) (s1:ByteArray) (names1:List ByteArray) (l1:List Th) (part1:TermT) (env1:List Th) (fix1:Bool) (op2 n2:Int) (s2:ByteArray) (names2:List ByteArray) (l2:List Th) (part2:TermT) (env2:List Th) (fix2:Bool) (T:Nat) :
   SpecR Tryz.prog 57 [.one (.ptr (.ref 0) 0),ii 12,pp (.slice ([(.mk op1 n1 s1 names1 l1 part1 env1 fix1),(.mk op2 n2 s2 names2 l2 part2 env2 fix2)].map encW))] [stB 0 F st out 0 0] (encS F T (.ok (truthH (s1.toList==s2.toList)) st out)):=by
 generalize hb:(s1.toList==s2.toList)=b
 refine wS (rv:=[.cell 6 83]) ann57 154 Tryz.func57 ?_
 simp only[go_sem,stB,encW_mk,hb]
 iterate 8 (try (refine ⟨by kernel_rfl,?_⟩))
 try simp only[go_sem,stB,encW_mk,hb]
 refine aCall_intro (rtruth_spec b) ?_
 simp only[go_sem,stB,encS_ok,finT_def]
 exact ⟨_,rfl⟩
theorem rprim_13 (F st:Nat) (out:List ByteArray) (op1 n1:Int) (s1:ByteArray) (names1:List ByteArray) (l1:List Th) (part1:TermT) (env1:List Th) (fix1:Bool) (hn1:-4503599627370496≤n1∧n1≤4503599627370496) (T:Nat) :
   SpecR Tryz.prog 57 [.one (.ptr (.ref 0) 0),ii 13,pp (.slice ([(.mk op1 n1 s1 names1 l1 part1 env1 fix1)].map encW))] [stB 0 F st out 0 0] (encS F T (endP st out (txtP (showB n1)))):=by
 have hs:=rtext_spec 0 F st out (showB n1) 0
 generalize endP st out (txtP (showB n1))=r at hs ⊢
 refine wS (rv:=[.cell 6 83]) ann57 154 Tryz.func57 ?_
 simp only[go_sem,stB,encW_mk]
 iterate 8 (try (refine ⟨by kernel_rfl,?_⟩))
 try simp only[go_sem,stB,encW_mk]
 refine aCall_intro (rshow_spec n1 hn1.1 hn1.2) ?_
 simp only[go_sem,stB]
 refine aCall_res hs ?_
 cases r with
 |ok v st1 out1=>simp only[go_sem,stB,encS_ok,finT_def];exact ⟨_,rfl⟩
 |bad op1 m1 st1 out1=>simp only[go_sem,stB,encS_bad,finT_def];exact ⟨_,rfl⟩
theorem rprim_14z (F st:Nat) (out:List ByteArray) (op1 n1:Int) (s1:ByteArray) (names1:List ByteArray) (l1:List Th) (part1:TermT) (env1:List Th) (fix1:Bool) (hlen:out.length=1000) (T:Nat) :
   SpecR Tryz.prog 57 [.one (.ptr (.ref 0) 0),ii 14,pp (.slice ([(.mk op1 n1 s1 names1 l1 part1 env1 fix1)].map encW))] [stB 0 F st out 0 0] (encS F T (.bad 2 2 st out)):=by
 have d1:((out.length:Int)==1000)=true:=by rw[hlen];rfl
 refine wS (rv:=[.cell 6 83]) ann57 154 Tryz.func57 ?_
 simp only[go_sem,stB,encW_mk,strs_len,d1]
 iterate 8 (try (refine ⟨by kernel_rfl,?_⟩))
 try simp only[go_sem,stB,encW_mk,strs_len,d1]
 refine aCall_res (stop_spec 0 F st out 2 2 0) ?_
 simp only[go_sem,stB,encS_bad,finT_def]
 exact ⟨_,rfl⟩
theorem rprim_14n (F st:Nat) (op1 n1:Int) (s1:ByteArray) (names1:List ByteArray) (l1:List Th) (part1:TermT) (env1:List Th) (fix1:Bool) (T:Nat) :
   SpecR Tryz.prog 57 [.one (.ptr (.ref 0) 0),ii 14,pp (.slice ([(.mk op1 n1 s1 names1 l1 part1 env1 fix1)].map encW))] [stB 0 F st [] 0 0] (encS F T (.ok unitH st ([]++[s1]))):=by
 have d1:(((0:Nat):Int)==1000)=false:=rfl
 refine wS (rv:=[.cell 6 83]) ann57 154 Tryz.func57 ?_
 simp only[go_sem,stB,encW_mk,strs_nil,le_mx,d1]
 iterate 8 (try (refine ⟨by kernel_rfl,?_⟩))
 try simp only[go_sem,stB,encW_mk,strs_nil,le_mx,d1]
 refine aCall_intro runit_spec ?_
 simp only[go_sem,stB,encS_ok,finT_def,strs_cons,strs_app,strs_nil,List.cons_append,List.nil_append]
 exact ⟨_,rfl⟩
theorem rprim_14c (F st:Nat) (x:ByteArray) (r:List ByteArray) (op1 n1:Int) (s1:ByteArray) (names1:List ByteArray) (l1:List Th) (part1:TermT) (env1:List Th) (fix1:Bool) (ho:r.length+1<1000) (T:Nat) :
   SpecR Tryz.prog 57 [.one (.ptr (.ref 0) 0),ii 14,pp (.slice ([(.mk op1 n1 s1 names1 l1 part1 env1 fix1)].map encW))] [stB 0 F st (x::r) 0 0] (encS F T (.ok unitH st (x::r++[s1]))):=by
 have d1:(((r.length+1:Nat):Int)==1000)=false:=by rw[beq_eq_false_iff_ne];omega
 have e1:((r.length+1+1)*16≤140737488355328)=True:=by simp;omega
 have e2:(r.length+1+1≤maxLen)=True:=by rw[maxLen_eq];simp;omega
 refine wS (rv:=[.cell 6 83]) ann57 154 Tryz.func57 ?_
 simp only[go_sem,stB,encW_mk,strs_cons,strs_len,d1,e1,e2]
 iterate 8 (try (refine ⟨by kernel_rfl,?_⟩))
 try simp only[go_sem,stB,encW_mk,strs_cons,strs_len,d1,e1,e2]
 refine aCall_intro runit_spec ?_
 simp only[go_sem,stB,encS_ok,finT_def,strs_cons,strs_app,strs_len,List.cons_append,List.nil_append]
 exact ⟨_,rfl⟩
theorem rprimS_spec (t F st:Nat) (out:List ByteArray) (k:Int) (l:List Th) (h1:1≤k) (h2:k≤14) (hl:l.length=(opsP k).1) (hv:∀v∈l,okV v) (ho:out.length≤1000) (T:Nat) :
   SpecR Tryz.prog 57 [.one (.ptr (.ref 0) 0),ii k,pp (.slice (l.map encW))] [stB t F st out 0 0] (encS F T (primS k l st out)):=by
 refine SpecR.st_in t rfl ?_
 have hk:k=1∨k=2∨k=3∨k=4∨k=5∨k=6∨k=7∨k=8∨k=9∨k=10∨k=11∨k=12∨k=13∨k=14:=by omega
 have two:∀{k},(opsP k).1=2→l.length=(opsP k).1→∃a b,l=[a,b]:=by
   intro k e hl
   rw[e] at hl
   match l,hl with
   | [a,b],_=>exact ⟨a,b,rfl⟩
 have one:∀{k},(opsP k).1=1→l.length=(opsP k).1→∃a,l=[a]:=by
   intro k e hl
   rw[e] at hl
   match l,hl with
   | [a],_=>exact ⟨a,rfl⟩
 rcases hk with rfl|rfl|rfl|rfl|rfl|rfl|rfl|rfl|rfl|rfl|rfl|rfl|rfl|rfl
 · obtain ⟨a,b,rfl⟩:=two rfl hl
   have ha:=hv a (by simp)
   have hb:=hv b (by simp)
   cases a with
   |mk op1 n1 s1 names1 l1 part1 env1 fix1=>
   cases b with
   |mk op2 n2 s2 names2 l2 part2 env2 fix2=>
     exact rprim_1 F st out op1 n1 s1 names1 l1 part1 env1 fix1 op2 n2 s2 names2 l2 part2 env2 fix2 ha.1 hb.1 T
 · obtain ⟨a,b,rfl⟩:=two rfl hl
   have ha:=hv a (by simp)
   have hb:=hv b (by simp)
   cases a with
   |mk op1 n1 s1 names1 l1 part1 env1 fix1=>
   cases b with
   |mk op2 n2 s2 names2 l2 part2 env2 fix2=>
     exact rprim_2 F st out op1 n1 s1 names1 l1 part1 env1 fix1 op2 n2 s2 names2 l2 part2 env2 fix2 ha.1 hb.1 T
 · obtain ⟨a,b,rfl⟩:=two rfl hl
   have ha:=hv a (by simp)
   have hb:=hv b (by simp)
   cases a with
   |mk op1 n1 s1 names1 l1 part1 env1 fix1=>
   cases b with
   |mk op2 n2 s2 names2 l2 part2 env2 fix2=>
     have e:primS 3 [(.mk op1 n1 s1 names1 l1 part1 env1 fix1),(.mk op2 n2 s2 names2 l2 part2 env2 fix2)] st out=endP st out (numP (timesP n1 n2)):=by rw[←mul_times];rfl
     rw[e];exact rprim_3 F st out op1 n1 s1 names1 l1 part1 env1 fix1 op2 n2 s2 names2 l2 part2 env2 fix2 ha.1 hb.1 T
 · obtain ⟨a,b,rfl⟩:=two rfl hl
   have ha:=hv a (by simp)
   have hb:=hv b (by simp)
   cases a with
   |mk op1 n1 s1 names1 l1 part1 env1 fix1=>
   cases b with
   |mk op2 n2 s2 names2 l2 part2 env2 fix2=>
     by_cases h0:n2=0
     · have e:primS 4 [(.mk op1 n1 s1 names1 l1 part1 env1 fix1),(.mk op2 n2 s2 names2 l2 part2 env2 fix2)] st out=.bad 2 3 st out:=by subst h0;rfl
       rw[e];exact rprim_4z F st out op1 n1 s1 names1 l1 part1 env1 fix1 op2 n2 s2 names2 l2 part2 env2 fix2 h0 T
     · have e:primS 4 [(.mk op1 n1 s1 names1 l1 part1 env1 fix1),(.mk op2 n2 s2 names2 l2 part2 env2 fix2)] st out=endP st out (numP (n1.tdiv n2)):=by show endP st out (if n2=0 then _ else _)=_;rw[if_neg h0];rfl
       rw[e];exact rprim_4 F st out op1 n1 s1 names1 l1 part1 env1 fix1 op2 n2 s2 names2 l2 part2 env2 fix2 ha.1 hb.1 h0 T
 · obtain ⟨a,b,rfl⟩:=two rfl hl
   have ha:=hv a (by simp)
   have hb:=hv b (by simp)
   cases a with
   |mk op1 n1 s1 names1 l1 part1 env1 fix1=>
   cases b with
   |mk op2 n2 s2 names2 l2 part2 env2 fix2=>
     by_cases h0:n2=0
     · have e:primS 5 [(.mk op1 n1 s1 names1 l1 part1 env1 fix1),(.mk op2 n2 s2 names2 l2 part2 env2 fix2)] st out=.bad 2 3 st out:=by subst h0;rfl
       rw[e];exact rprim_5z F st out op1 n1 s1 names1 l1 part1 env1 fix1 op2 n2 s2 names2 l2 part2 env2 fix2 h0 T
     · have e:primS 5 [(.mk op1 n1 s1 names1 l1 part1 env1 fix1),(.mk op2 n2 s2 names2 l2 part2 env2 fix2)] st out=endP st out (numP (n1.tmod n2)):=by show endP st out (if n2=0 then _ else _)=_;rw[if_neg h0];rfl
       rw[e];exact rprim_5 F st out op1 n1 s1 names1 l1 part1 env1 fix1 op2 n2 s2 names2 l2 part2 env2 fix2 ha.1 hb.1 h0 T
 · obtain ⟨a,rfl⟩:=one rfl hl
   have ha:=hv a (by simp)
   cases a with
   |mk op1 n1 s1 names1 l1 part1 env1 fix1=>
     exact rprim_6 F st out op1 n1 s1 names1 l1 part1 env1 fix1 ha.1 T
 · obtain ⟨a,b,rfl⟩:=two rfl hl
   have ha:=hv a (by simp)
   have hb:=hv b (by simp)
   cases a with
   |mk op1 n1 s1 names1 l1 part1 env1 fix1=>
   cases b with
   |mk op2 n2 s2 names2 l2 part2 env2 fix2=>
     exact rprim_7 F st out op1 n1 s1 names1 l1 part1 env1 fix1 op2 n2 s2 names2 l2 part2 env2 fix2 T
 · obtain ⟨a,b,rfl⟩:=two rfl hl
   have ha:=hv a (by simp)
   have hb:=hv b (by simp)
   cases a with
   |mk op1 n1 s1 names1 l1 part1 env1 fix1=>
   cases b with
   |mk op2 n2 s2 names2 l2 part2 env2 fix2=>
     exact rprim_8 F st out op1 n1 s1 names1 l1 part1 env1 fix1 op2 n2 s2 names2 l2 part2 env2 fix2 T
 · obtain ⟨a,b,rfl⟩:=two rfl hl
   have ha:=hv a (by simp)
   have hb:=hv b (by simp)
   cases a with
   |mk op1 n1 s1 names1 l1 part1 env1 fix1=>
   cases b with
   |mk op2 n2 s2 names2 l2 part2 env2 fix2=>
     exact rprim_9 F st out op1 n1 s1 names1 l1 part1 env1 fix1 op2 n2 s2 names2 l2 part2 env2 fix2 T
 · obtain ⟨a,b,rfl⟩:=two rfl hl
   have ha:=hv a (by simp)
   have hb:=hv b (by simp)
   cases a with
   |mk op1 n1 s1 names1 l1 part1 env1 fix1=>
   cases b with
   |mk op2 n2 s2 names2 l2 part2 env2 fix2=>
     exact rprim_10 F st out op1 n1 s1 names1 l1 part1 env1 fix1 op2 n2 s2 names2 l2 part2 env2 fix2 ha.2 hb.2 T
 · obtain ⟨a,rfl⟩:=one rfl hl
   have ha:=hv a (by simp)
   cases a with
   |mk op1 n1 s1 names1 l1 part1 env1 fix1=>
     exact rprim_11 F st out op1 n1 s1 names1 l1 part1 env1 fix1 T
 · obtain ⟨a,b,rfl⟩:=two rfl hl
   have ha:=hv a (by simp)
   have hb:=hv b (by simp)
   cases a with
   |mk op1 n1 s1 names1 l1 part1 env1 fix1=>
   cases b with
   |mk op2 n2 s2 names2 l2 part2 env2 fix2=>
     exact rprim_12 F st out op1 n1 s1 names1 l1 part1 env1 fix1 op2 n2 s2 names2 l2 part2 env2 fix2 T
 · obtain ⟨a,rfl⟩:=one rfl hl
   have ha:=hv a (by simp)
   cases a with
   |mk op1 n1 s1 names1 l1 part1 env1 fix1=>
     exact rprim_13 F st out op1 n1 s1 names1 l1 part1 env1 fix1 ha.1 T
 · obtain ⟨a,rfl⟩:=one rfl hl
   have ha:=hv a (by simp)
   cases a with
   |mk op1 n1 s1 names1 l1 part1 env1 fix1=>
     by_cases hlen:out.length=1000
     · have e:primS 14 [(.mk op1 n1 s1 names1 l1 part1 env1 fix1)] st out=.bad 2 2 st out:=by rw[primS,if_pos rfl,if_pos hlen]
       rw[e];exact rprim_14z F st out op1 n1 s1 names1 l1 part1 env1 fix1 hlen T
     · have e:primS 14 [(.mk op1 n1 s1 names1 l1 part1 env1 fix1)] st out=.ok unitH st (out++[s1]):=by rw[primS,if_pos rfl,if_neg hlen];rfl
       rw[e]
       cases out with
       |nil=>exact rprim_14n F st op1 n1 s1 names1 l1 part1 env1 fix1 T
       |cons x r=>exact rprim_14c F st x r op1 n1 s1 names1 l1 part1 env1 fix1 (by simp at ho hlen;omega) T
end Go.Abs.Kon
