/- Evaluation: values, the evaluator, plain; the small functions. -/
import Derived.Test.YtokeiaiddaojnaaGreatDoorStepA
import Derived.Test.YtokeiaiddaojnaaGreatDoorAbsD
set_option linter.unusedSimpArgs false
set_option linter.unusedVariables false
namespace Go.Abs.Kon
open Go Go.Proofs Go.Abs
set_option maxRecDepth 100000
set_option maxHeartbeats 4000000
inductive Th where
 |mk (op n:Int) (s:ByteArray) (names:List ByteArray) (l:List Th) (part:TermT) (env:List Th) (fix:Bool)
def Th.op:Th→Int | .mk op _ _ _ _ _ _ _=>op
def Th.n:Th→Int | .mk _ n _ _ _ _ _ _=>n
def Th.s:Th→ByteArray | .mk _ _ s _ _ _ _ _=>s
def Th.names:Th→List ByteArray | .mk _ _ _ names _ _ _ _=>names
def Th.l:Th→List Th | .mk _ _ _ _ l _ _ _=>l
def Th.part:Th→TermT | .mk _ _ _ _ _ part _ _=>part
def Th.env:Th→List Th | .mk _ _ _ _ _ _ env _=>env
def Th.fix:Th→Bool | .mk _ _ _ _ _ _ _ fix=>fix
def Th.envOf (v:Th):List Th:=if v.fix then v::v.env else v.env
mutual
theorem Th.ind1 {M:Th→Prop}(h:∀op n s names l part env fix,(∀x∈l,M x)→(∀x∈env,M x)→M (.mk op n s names l part env fix)):∀c,M c
 | .mk op n s names l part env fix=>h op n s names l part env fix (Th.ind2 h l) (Th.ind2 h env)
theorem Th.ind2 {M:Th→Prop}(h:∀op n s names l part env fix,(∀x∈l,M x)→(∀x∈env,M x)→M (.mk op n s names l part env fix)):∀l:List Th,∀x∈l,M x
 | [],_,hx=>absurd hx (by simp)
 |c::l,x,hx=>(List.mem_cons.1 hx).elim (fun e=>e ▸ Th.ind1 h c) (fun hx=>Th.ind2 h l x hx)
end
def TermT.cells (t:TermT):List PV:=[.int .i64 t.op,.int .i64 t.n,.str t.s,.int .i64 t.con.op,.int .i64 t.con.n,.str t.con.s,.slice (t.con.k.map encK),.slice (t.con.names.map .str),.slice (t.con.l.map encC),
     .int .i64 t.to.op,.int .i64 t.to.n,.str t.to.s,.slice (t.to.k.map encK),.slice (t.to.names.map .str),.slice (t.to.l.map encC),.slice (t.k.map encK),.slice (t.names.map .str),.slice (t.l.map encT)]
mutual
def encH:Th→PV
 | .mk op n s names l part env fix=>if fix=true then .fx ([.int .i64 op,.int .i64 n,.str s,.slice (names.map .str),.slice (encHs l)]++part.cells) (encEnv env)
   else .ep (.agg ([.int .i64 op,.int .i64 n,.str s,.slice (names.map .str),.slice (encHs l)]++part.cells++[encEnv env])) 0
def encHs:List Th→List PV
 | []=>[]
 |c::l=>encH c::encHs l
def encEnv:List Th→PV
 | []=>.nilp
 |v::r=>.ep (.agg [encH v,encEnv r]) 0
end
theorem encHs_map:∀l,encHs l=l.map encH
 | []=>rfl
 |c::l=>by simp[encHs,encHs_map l]
def Th.cellEnv (v:Th):PV:=if v.fix=true then .fxc ([.int .i64 v.op,.int .i64 v.n,.str v.s,.slice (v.names.map .str),.slice (v.l.map encH)]++v.part.cells) (encEnv v.env) else encEnv v.env
@[go_sem] theorem encH_unfx (v:Th):(encH v).unfx=.ep (.agg [.int .i64 v.op,.int .i64 v.n,.str v.s,.slice (v.names.map .str),.slice (v.l.map encH),
   .int .i64 v.part.op,.int .i64 v.part.n,.str v.part.s,.int .i64 v.part.con.op,.int .i64 v.part.con.n,.str v.part.con.s,.slice (v.part.con.k.map encK),.slice (v.part.con.names.map .str),.slice (v.part.con.l.map encC),
     .int .i64 v.part.to.op,.int .i64 v.part.to.n,.str v.part.to.s,.slice (v.part.to.k.map encK),.slice (v.part.to.names.map .str),.slice (v.part.to.l.map encC),.slice (v.part.k.map encK),.slice (v.part.names.map .str),.slice (v.part.l.map encT),v.cellEnv]) 0:=by
 cases v with
 |mk op n s names l part env fix=>
   rw[encH,encHs_map,Th.cellEnv]
   cases fix<;>rfl
@[go_sem] theorem encH_nil (v:Th):nilPV (encH v)=Eff.pv (encH v):=by
 cases v with
 |mk op n s names l part env fix=>rw[encH];cases fix<;>rfl
@[go_sem] theorem encH_sz (v:Th):PV.hasSz .one (encH v)=true:=by
 cases v with
 |mk op n s names l part env fix=>rw[encH];cases fix<;>rfl
@[go_sem] theorem encEnv_sz (l:List Th):PV.hasSz .one (encEnv l)=true:=by cases l<;>(rw[encEnv];rfl)
@[go_sem] theorem cellEnv_sz (v:Th):PV.hasSz .one v.cellEnv=true:=by
 unfold Th.cellEnv
 split
 · rfl
 · exact encEnv_sz _
theorem encH_fix (op n:Int) (s:ByteArray) (names:List ByteArray) (l:List Th) (part:TermT) (env:List Th):encH (.mk op n s names l part env true)=.fx ([.int .i64 op,.int .i64 n,.str s,.slice (names.map .str),.slice (l.map encH)]++part.cells) (encEnv env):=by
 rw[encH,encHs_map];rfl
theorem encH_plain (op n:Int) (s:ByteArray) (names:List ByteArray) (l:List Th) (part:TermT) (env:List Th):encH (.mk op n s names l part env false)=.ep (.agg ([.int .i64 op,.int .i64 n,.str s,.slice (names.map .str),.slice (l.map encH)]++part.cells++[encEnv env])) 0:=by
 rw[encH,encHs_map];rfl
theorem cellEnv_imp (v:Th):v.cellEnv.imp (encEnv v.envOf):=by
 cases v with
 |mk op n s names l part env fix=>
   cases fix with
   |false=>exact PV.imp_refl _
   |true=>
     have:=imp_unfx (Th.cellEnv (.mk op n s names l part env true))
     have e:(Th.cellEnv (.mk op n s names l part env true)).unfx=encEnv (Th.envOf (.mk op n s names l part env true)):=by
       show PV.ep (.agg [.fx _ _,_]) 0=encEnv (_::_)
       rw[encEnv,encH_fix]
       rfl
     rw[e] at this
     exact this
theorem cons_imp {p:PV}{v:Th}{env:List Th}(h:p.imp (encEnv env)):(PV.ep (.agg [encH v,p]) 0).imp (encEnv (v::env)):=by
 rw[encEnv]
 exact imp_ep 0 (imp_agg ⟨PV.imp_refl _,h,trivial⟩)
/-! The evaluator -/
def intH (n:Int):Th:=.mk 1 n ByteArray.empty [] [] zeroT [] false
def txtH (s:ByteArray):Th:=.mk 2 0 s [] [] zeroT [] false
def recH (names:List ByteArray) (l:List Th):Th:=.mk 3 0 ByteArray.empty names l zeroT [] false
def injH (s:ByteArray) (v:Th):Th:=.mk 4 0 s [] [v] zeroT [] false
def rollH (v:Th):Th:=.mk 5 0 ByteArray.empty [] [v] zeroT [] false
def packH (v:Th):Th:=.mk 6 0 ByteArray.empty [] [v] zeroT [] false
def cloH (t:TermT) (env:List Th):Th:=.mk 7 0 ByteArray.empty [] [] t env false
def fixH (t:TermT) (env:List Th):Th:=.mk 7 0 ByteArray.empty [] [] t env true
def zeroH:Th:=.mk 0 0 ByteArray.empty [] [] zeroT [] false
def unitH:Th:=recH [] []
def trueS:ByteArray:=⟨#[84,114,117,101]⟩
def falseS:ByteArray:=⟨#[70,97,108,115,101]⟩
def truthH (b:Bool):Th:=rollH (injH (if b then trueS else falseS) unitH)
def isFun (v:Th) (op:Int):Bool:=v.op==7&&v.part.op==op
inductive Ev where
 |ok (v:Th) (st:Nat) (out:List ByteArray)
 |bad (op n:Int) (st:Nat) (out:List ByteArray)
def numP (n:Int):Int ⊕ Th:=if n>4503599627370496∨n < -4503599627370496 then .inl 2 else .inr (intH n)
def txtP (s:ByteArray):Int ⊕ Th:=if s.size>16384 then .inl 2 else .inr (txtH s)
def absP (n:Int):Int:=if -n>n then -n else n
def mulP (a b:Int):Int ⊕ Th:=if a≠0∧absP b>(4503599627370496:Int).tdiv (absP a) then .inl 2 else numP (a*b)
def primP (k:Int) (a b:Th):Int ⊕ Th:=
 if k=1 then numP (a.n+b.n) else if k=2 then numP (a.n - b.n) else if k=3 then mulP a.n b.n else
 if k=4 then (if b.n=0 then .inl 3 else numP (a.n.tdiv b.n)) else if k=5 then (if b.n=0 then .inl 3 else numP (a.n.tmod b.n)) else
 if k=6 then numP (-a.n) else if k=7 then .inr (truthH (decide (a.n<b.n))) else if k=8 then .inr (truthH (decide (a.n≤b.n))) else if k=9 then .inr (truthH (a.n==b.n)) else
 if k=10 then txtP (a.s++b.s) else if k=11 then numP a.s.size else if k=12 then .inr (truthH (a.s.toList==b.s.toList)) else if k=13 then txtP (showB a.n) else .inr unitH
def kindP (k:Int):Int:=if k=10∨k=11∨k=12∨k=14 then 2 else 1
def lastH (l:List Th):Th:=l.getLast?.getD zeroH
def endP (st:Nat) (out:List ByteArray):Int ⊕ Th→Ev
 | .inl n=>.bad 2 n st out
 | .inr v=>.ok v st out
def primE (k:Int) (l:List Th) (st:Nat) (out:List ByteArray):Ev:=
 if l.any (fun v=>v.op != kindP k)=true then .bad 4 0 st out else
 if k=14 then (if out.length=1000 then .bad 2 2 st out else .ok unitH st (out++[(l.head?.getD zeroH).s])) else
 endP st out (primP k (l.head?.getD zeroH) (lastH l))
def andThen (r:Ev) (k:Th→Nat→List ByteArray→Ev):Ev:=
 match r with
 | .ok v st out=>k v st out
 | .bad op n st out=>.bad op n st out
def evs (f:TermT→Nat→List ByteArray→Ev) (k:List Th→Nat→List ByteArray→Ev):List TermT→List Th→Nat→List ByteArray→Ev
 | [],acc,st,out=>k acc st out
 |t::r,acc,st,out=>andThen (f t st out) fun v st out=>evs f k r (acc++[v]) st out
def nthT (l:List TermT) (i:Nat):TermT:=l.getD i zeroT
def nthH (l:List Th) (i:Nat):Th:=l.getD i zeroH
def evK (f:TermT→List Th→Nat→List ByteArray→Ev) (op:Int) (s:ByteArray) (names:List ByteArray) (l:List TermT) (env:List Th) (v:Th) (st:Nat) (out:List ByteArray):Ev:=
 if op=5 then andThen (f (nthT l 1) env st out) fun a st out=>if isFun v 4=true then f (nthT v.part.l 0) (a::v.envOf) st out else .bad 4 0 st out else
 if op=7 then (if isFun v 6=true then f (nthT v.part.l 0) v.envOf st out else .bad 4 0 st out) else
 if op=8 then .ok (packH v) st out else if op=12 then .ok (injH s v) st out else if op=14 then .ok (rollH v) st out else
 if op=9 then (if v.op=6 then f (nthT l 1) (nthH v.l 0::env) st out else .bad 4 0 st out) else
 if op=15 then (if v.op=5 then .ok (nthH v.l 0) st out else .bad 4 0 st out) else
 if op=11 then (if v.op=3∧0≤findS v.names s 0 then .ok (nthH v.l (findS v.names s 0).toNat) st out else .bad 4 0 st out) else
 if op=13 then (if v.op=4∧0≤findS names v.s 0 then f (nthT l ((findS names v.s 0).toNat+1)) (nthH v.l 0::env) st out else .bad 4 0 st out) else
 f (nthT l 1) (v::env) st out
def ev (F:Nat):Nat→TermT→List Th→Nat→List ByteArray→Ev
 | 0,_,_,st,out=>.bad 0 0 st out
 |g+1,t,env,st,out=>
   if st=F then .bad 3 0 st out else
   if t.op=1 then .ok (nthH env t.n.toNat) (st+1) out else if t.op=2 then .ok (intH t.n) (st+1) out else if t.op=3 then .ok (txtH t.s) (st+1) out else
   if t.op=4∨t.op=6 then .ok (cloH t env) (st+1) out else
   if t.op=16 then (if (nthT t.l 0).op=4∨(nthT t.l 0).op=6 then (if st+1=F then .bad 3 0 (st+1) out else .ok (fixH (nthT t.l 0) env) (st+2) out) else .bad 4 0 (st+1) out) else
   if t.op=19 then .bad 2 t.n (st+1) out else
   if t.op=10 then evs (fun x st out=>ev F g x env st out) (fun vs st out=>.ok (recH t.names vs) st out) t.l [] (st+1) out else
   if t.op=18 then evs (fun x st out=>ev F g x env st out) (fun vs st out=>primE t.n vs st out) t.l [] (st+1) out else
   andThen (ev F g (nthT t.l 0) env (st+1) out) fun v st out=>evK (ev F g) t.op t.s t.names t.l env v st out
/-! In memory -/
def strs (l:List ByteArray):List PV:=l.map .str
def endedE (op n:Int):PV:=.ifc 73 (.agg [.int .i64 op,.int .i64 n])
def runB (t F st:Nat) (out:List ByteArray):Box:=⟨.agg 3,.agg [.pv (.int .i64 F),.pv (.int .i64 st),.own t .one (strs out)]⟩
def encEv (F t:Nat):Ev→Res
 | .ok v st out=>.ret (encH v) [runB t F st out]
 | .bad op n st out=>.pan (endedE op n) [runB t F st out]
def allAnc (ops:Array Oper) (i:Nat):Nat→Nat→Bool
 | 0,_=>true
 |n+1,j=>anc ops ops.size j i&&allAnc ops i n (j+1)
theorem harm_desc {P:Program}{A:Ann}{ops:Array Oper}{i:Nat}:∀{l:List Oper}{j:Nat}{s:AS},allAnc ops i l.length j=true→harm P A ops i l j s
 | [],_,_,_=>trivial
 |o::r,j,s,h=>by
   simp only[List.length_cons,allAnc,Bool.and_eq_true] at h
   rw[harm_anc o j h.1]
   exact harm_desc h.2
theorem stuck_ok:Spec Tryz.prog 73 [bb true] [] (.tuple []) []:=by
 refine wk (rv:=[]) ann73 6 Tryz.func73 ?_
 simp only[go_sem]
theorem stuck_bad:SpecP Tryz.prog 73 [bb false] [] (endedE 4 0) []:=by
 refine SpecP.walk (rv:=[]) ann73 6 Tryz.func73 mixed rfl rfl (by kernel_rfl) rfl rfl fun hfit=>?_
 clear hfit
 simp only[go_sem,endedE]
theorem failed_spec (n:Int):SpecP Tryz.prog 69 [ii n] [] (endedE 2 n) []:=by
 refine SpecP.walk (rv:=[]) ann69 5 Tryz.func69 mixed rfl rfl (by kernel_rfl) rfl rfl fun hfit=>?_
 clear hfit
 simp only[go_sem,endedE]
theorem odd_false {t:Nat}(h:t % 2=0):(t % 2=1)=False:=by rw[h];simp
theorem step_ok (t F st:Nat) (out:List ByteArray) (ht:t % 2=0) (h:st≠F) (hs:st≤1000000000):Spec Tryz.prog 71 [.one (.ptr (.ref 0) 0)] [runB t F st out] (.tuple []) [runB t F (st+1) out]:=by
 refine wk (rv:=[]) ann71 20 Tryz.func71 ?_
 have h1:((st:Int)==(F:Int))=false:=by rw[beq_eq_false_iff_ne];omega
 have w1:IntKind.i64.wrap ((st:Int)+1)=((st+1:Nat):Int):=by rw[wrap_id (by omega) (by omega)];simp
 simp only[go_sem,runB,h1,w1,odd_false ht]
theorem step_bad (t F:Nat) (out:List ByteArray) (ht:t % 2=0):SpecP Tryz.prog 71 [.one (.ptr (.ref 0) 0)] [runB t F F out] (endedE 3 0) [runB t F F out]:=by
 refine SpecP.walk (rv:=[]) ann71 20 Tryz.func71 mixed rfl rfl (by kernel_rfl) rfl rfl fun hfit=>?_
 clear hfit
 have h1:((F:Int)==(F:Int))=true:=by rw[beq_iff_eq]
 simp only[go_sem,runB,h1,endedE,odd_false ht]
theorem nthH_zero (v:Th) (r:List Th):nthH (v::r) 0=v:=rfl
theorem nthH_succ (v:Th) (r:List Th) (n:Nat):nthH (v::r) (n+1)=nthH r n:=rfl
theorem get_spec (env:List Th) (n:Nat) (h:n<env.length) (hn:n≤1000000000):Spec Tryz.prog 72 [pp (encEnv env),ii n] [] (encH (nthH env n)) []:=by
 generalize hres:nthH env n=res
 refine wk (rv:=[.tmp 4]) ann72 17 Tryz.func72 ?_
 simp only[go_sem]
 refine aLoop_meas (β:=List Th×Nat) (fun b=>⟨[(1,ii b.2),(0,pp (encEnv b.1))],[],[]⟩) (fun b=>b.2<b.1.length∧b.2≤1000000000∧nthH b.1 b.2=res) (fun b=>b.2) ?_ (env,n) _ ?_ ⟨h,hn,hres⟩
 · rintro ⟨e,m⟩ ⟨h1,h2,h3⟩ K hK
   simp only at h1 h2 h3
   cases e with
   |nil=>simp at h1
   |cons v r=>
     cases m with
     |zero=>
       rw[nthH_zero] at h3
       subst h3
       have d1:decide (((0:Nat):Int)>0)=false:=by decide
       simp only[go_sem,d1,encEnv]
     |succ m=>
       have d1:decide (((m+1:Nat):Int)>0)=true:=by rw[decide_eq_true_iff];omega
       have w1:IntKind.i64.wrap (((m+1:Nat):Int) - 1)=((m:Nat):Int):=by rw[wrap_id (by omega) (by omega)];simp
       simp only[go_sem,d1,encEnv,w1]
       refine hK (r,m) _ ?_ ⟨by simp at h1;exact h1,by omega,by rw[nthH_succ] at h3;exact h3⟩ (by simp)
       simp only[go_sem]
 · simp only[go_sem]
/-! Values -/
theorem zero_cells:zeroT.cells=[.int .i64 0,.int .i64 0,.str ByteArray.empty,.int .i64 0,.int .i64 0,.str ByteArray.empty,.slice [],.slice [],.slice [],.int .i64 0,.int .i64 0,.str ByteArray.empty,.slice [],.slice [],.slice [],.slice [],.slice [],.slice []]:=rfl
theorem encEnv_nil:encEnv []=.nilp:=by rw[encEnv]
theorem enc_simple (op n:Int) (s:ByteArray) (names:List ByteArray) (l:List Th):encH (.mk op n s names l zeroT [] false)=.ep (.agg [.int .i64 op,.int .i64 n,.str s,.slice (names.map .str),.slice (l.map encH),
   .int .i64 0,.int .i64 0,.str ByteArray.empty,.int .i64 0,.int .i64 0,.str ByteArray.empty,.slice [],.slice [],.slice [],.int .i64 0,.int .i64 0,.str ByteArray.empty,.slice [],.slice [],.slice [],.slice [],.slice [],.slice [],.nilp]) 0:=by
 rw[encH_plain,zero_cells,encEnv_nil];rfl
theorem unit_spec:Spec Tryz.prog 95 [] [] (encH unitH) []:=by
 refine wk (rv:=[.tmp 0]) ann95 3 Tryz.func95 ?_
 simp only[go_sem,unitH,recH,enc_simple]
theorem truth_spec (b:Bool):Spec Tryz.prog 92 [bb b] [] (encH (truthH b)) []:=by
 refine wk (rv:=[.tmp 2]) ann92 13 Tryz.func92 ?_
 cases b with
 |true=>
   simp only[go_sem]
   refine aCall_intro unit_spec ?_
   simp only[go_sem,truthH,rollH,injH,enc_simple,trueS]
 |false=>
   simp only[go_sem]
   refine aCall_intro unit_spec ?_
   simp only[go_sem,truthH,rollH,injH,enc_simple,falseS]
def encP:Int ⊕ Th→Res
 | .inl k=>.pan (endedE 2 k) []
 | .inr v=>.ret (encH v) []
theorem number_spec (n:Int):SpecR Tryz.prog 90 [ii n] [] (encP (numP n)):=by
 rw[numP]
 by_cases h:n>4503599627370496∨n < -4503599627370496
 · rw[if_pos h]
   show SpecP _ _ _ _ _ _
   refine SpecP.walk (rv:=[.tmp 2]) ann90 13 Tryz.func90 mixed rfl rfl (by kernel_rfl) rfl rfl fun hfit=>?_
   clear hfit
   by_cases h1:n>4503599627370496
   · have d1:decide (n>4503599627370496)=true:=decide_eq_true h1
     simp only[go_sem,d1]
     refine aCall_pan (failed_spec 2) ?_
     simp only[go_sem]
   · have d1:decide (n>4503599627370496)=false:=decide_eq_false h1
     have d2:decide (n < -4503599627370496)=true:=decide_eq_true (h.resolve_left h1)
     simp only[go_sem,d1,d2]
     refine aCall_pan (failed_spec 2) ?_
     simp only[go_sem]
 · rw[if_neg h]
   show Spec _ _ _ _ _ _
   refine wk (rv:=[.tmp 2]) ann90 13 Tryz.func90 ?_
   have d1:decide (n>4503599627370496)=false:=decide_eq_false fun e=>h (.inl e)
   have d2:decide (n < -4503599627370496)=false:=decide_eq_false fun e=>h (.inr e)
   simp only[go_sem,d1,d2,intH,enc_simple]
theorem text_spec (s:ByteArray):SpecR Tryz.prog 93 [pp (.str s)] [] (encP (txtP s)):=by
 rw[txtP]
 by_cases h:s.size>16384
 · rw[if_pos h]
   show SpecP _ _ _ _ _ _
   refine SpecP.walk (rv:=[.tmp 2]) ann93 10 Tryz.func93 mixed rfl rfl (by kernel_rfl) rfl rfl fun hfit=>?_
   clear hfit
   have d1:decide ((s.size:Int)>16384)=true:=decide_eq_true (by omega)
   simp only[go_sem,d1]
   refine aCall_pan (failed_spec 2) ?_
   simp only[go_sem]
 · rw[if_neg h]
   show Spec _ _ _ _ _ _
   refine wk (rv:=[.tmp 2]) ann93 10 Tryz.func93 ?_
   have d1:decide ((s.size:Int)>16384)=false:=decide_eq_false (by omega)
   simp only[go_sem,d1,txtH,enc_simple]
theorem wrapI {x:Int}(h1:-9223372036854775808≤x) (h2:x≤9223372036854775807):IntKind.i64.wrap x=x:=wrap_id h1 h2
theorem absP_le {n:Int}(h1:-4503599627370496≤n) (h2:n≤4503599627370496):0≤absP n∧absP n≤4503599627370496:=by unfold absP;split<;>omega
theorem product_spec (a b:Int) (a1:-4503599627370496≤a) (a2:a≤4503599627370496) (b1:-4503599627370496≤b) (b2:b≤4503599627370496):SpecR Tryz.prog 91 [ii a,ii b] [] (encP (mulP a b)):=by
 have w1:IntKind.i64.wrap (0 - a)=-a:=by rw[wrapI (by omega) (by omega)];omega
 have w2:IntKind.i64.wrap (0 - b)=-b:=by rw[wrapI (by omega) (by omega)];omega
 rw[mulP]
 by_cases h0:a=0
 · subst h0
   rw[if_neg (fun h=>h.1 rfl)]
   cases hn:numP (0*b) with
   |inl k=>rw[Int.zero_mul] at hn;cases hn
   |inr v=>
     have hs:=number_spec (0*b)
     rw[hn] at hs
     show Spec _ _ _ _ _ _
     refine wk (rv:=[.tmp 4]) ann91 24 Tryz.func91 ?_
     have w3:IntKind.i64.wrap (0*b)=0*b:=by rw[Int.zero_mul];rfl
     have d0:((0:Int) != 0)=false:=rfl
     simp only[go_sem,w3,d0]
     refine aCall_intro hs ?_
     simp only[go_sem]
 · have hp:=absP_le a1 a2
   have hq:=absP_le b1 b2
   have hpos:0<absP a:=by unfold absP;split<;>omega
   have d0:(a != 0)=true:=by simp[h0]
   have m1:(if -a>a then -a else a)=absP a:=rfl
   have m2:(if -b>b then -b else b)=absP b:=rfl
   have t0:0≤(4503599627370496:Int).tdiv (absP a):=Int.tdiv_nonneg (by omega) hp.1
   have t1:(4503599627370496:Int).tdiv (absP a)≤4503599627370496:=by
     rw[Int.tdiv_eq_ediv_of_nonneg (by omega)]
     exact Int.ediv_le_self _ (by omega)
   have w4:IntKind.i64.wrap ((4503599627370496:Int).tdiv (absP a))=(4503599627370496:Int).tdiv (absP a):=wrapI (by omega) (by omega)
   have e0:(absP a=0)=False:=by simp;omega
   by_cases h:absP b>(4503599627370496:Int).tdiv (absP a)
   · rw[if_pos ⟨h0,h⟩]
     show SpecP _ _ _ _ _ _
     refine SpecP.walk (rv:=[.tmp 4]) ann91 24 Tryz.func91 mixed rfl rfl (by kernel_rfl) rfl rfl fun hfit=>?_
     clear hfit
     have d1:decide (absP b>(4503599627370496:Int).tdiv (absP a))=true:=decide_eq_true h
     simp only[go_sem,d0,w1,w2,m1,m2,e0,w4,d1]
     refine aCall_pan (failed_spec 2) ?_
     simp only[go_sem]
   · rw[if_neg (fun e=>h e.2)]
     have d1:decide (absP b>(4503599627370496:Int).tdiv (absP a))=false:=decide_eq_false h
     have habs:∀x:Int,x≤absP x∧-x≤absP x:=by intro x;unfold absP;split<;>omega
     have hab:absP a*absP b≤4503599627370496:=by
       have h2:absP b≤(4503599627370496:Int).tdiv (absP a):=by omega
       have h3:=Int.mul_le_mul_of_nonneg_left h2 hp.1
       have h4:absP a*(4503599627370496:Int).tdiv (absP a)≤4503599627370496:=by
         rw[Int.tdiv_eq_ediv_of_nonneg (by omega)]
         exact Int.mul_ediv_self_le (by omega)
       omega
     have hm:∀x y:Int,x=absP a∨x=-absP a→y=absP b∨y=-absP b→-4503599627370496≤x*y∧x*y≤4503599627370496:=by
       have hnn:=Int.mul_nonneg hp.1 hq.1
       rintro x y (rfl|rfl) (rfl|rfl)
       · omega
       · rw[Int.mul_neg];omega
       · rw[Int.neg_mul];omega
       · rw[Int.neg_mul,Int.mul_neg];omega
     have hs2:∀x:Int,x=absP x∨x=-absP x:=by intro x;unfold absP;split<;>omega
     have hb:=hm a b (hs2 a) (hs2 b)
     have w5:IntKind.i64.wrap (a*b)=a*b:=wrapI (by omega) (by omega)
     have hn:numP (a*b)=.inr (intH (a*b)):=by rw[numP,if_neg (by omega)]
     have hs:=number_spec (a*b)
     rw[hn] at hs ⊢
     show Spec _ _ _ _ _ _
     refine wk (rv:=[.tmp 4]) ann91 24 Tryz.func91 ?_
     simp only[go_sem,d0,w1,w2,m1,m2,e0,w4,d1,w5]
     refine aCall_intro hs ?_
     simp only[go_sem]
theorem function_spec (v:Th) (op:Int):Spec Tryz.prog 75 [pp (encH v),ii op] [] (.bool (isFun v op)) []:=by
 refine wk (rv:=[.tmp 4]) ann75 19 Tryz.func75 ?_
 unfold isFun
 cases h:(v.op==7) with
 |true=>simp only[go_sem,h]
 |false=>simp only[go_sem,h]
def opsP (k:Int):Nat×Int:=if k=1∨k=2∨k=3∨k=4∨k=5∨k=7∨k=8∨k=9 then (2,1) else if k=6∨k=13 then (1,1) else if k=10∨k=12 then (2,2) else if k=11∨k=14 then (1,2) else (0,0)
theorem operands_spec (k:Int):Spec Tryz.prog 48 [ii k] [] (.tuple [.int .i64 (opsP k).1,.int .i64 (opsP k).2]) []:=by
 refine wk (rv:=[.tmp 2,.tmp 3]) ann48 23 Tryz.func48 ?_
 simp only[go_sem]
 repeat' ((first|refine condK_intro (fun _=>?_) (fun _=>?_)|refine guardK_intro (fun _=>?_) (fun _=>?_))<;>simp only[go_sem,List.length_map])
 all_goals (unfold opsP;simp_all)
@[go_sem] theorem wl2:IntKind.i64.wrap (((2:Nat):Int) - 1)=1:=by decide
@[go_sem] theorem wl1:IntKind.i64.wrap (((1:Nat):Int) - 1)=0:=by decide
def okN (v:Th):Prop:=-4503599627370496≤v.n∧v.n≤4503599627370496
theorem tdiv_wrap (a b:Int) (a1:-4503599627370496≤a) (a2:a≤4503599627370496):IntKind.i64.wrap (a.tdiv b)=a.tdiv b:=by
 have h:(a.tdiv b).natAbs≤a.natAbs:=by
   rw[Int.natAbs_tdiv]
   exact Nat.div_le_self _ _
 exact wrapI (by omega) (by omega)
theorem prim_1 (a b:Th) (ha:okN a) (hb:okN b):SpecR Tryz.prog 53 [ii 1,pp (.slice ([a,b].map encH))] [] (encP (primP 1 a b)):=by
 obtain ⟨a1,a2⟩:=ha
 obtain ⟨b1,b2⟩:=hb
 have w1:IntKind.i64.wrap (a.n+b.n)=a.n+b.n:=wrapI (by omega) (by omega)
 generalize hr:primP 1 a b=r
 have hs:=number_spec (a.n+b.n)
 have hp:primP 1 a b=numP (a.n+b.n):=rfl
 rw[hp] at hr
 rw[hr] at hs
 cases r with
 |inl e=>
   show SpecP _ _ _ _ _ _
   refine SpecP.walk (rv:=[.tmp 4]) ann53 168 Tryz.func53 mixed rfl rfl (by kernel_rfl) rfl rfl fun hfit=>?_
   clear hfit
   simp only[go_sem,Int.reduceBEq,Int.reduceNeg,Int.reduceBNe,w1]
   refine aCall_pan hs ?_
   simp only[go_sem,Int.reduceBEq,Int.reduceNeg,Int.reduceBNe]
   try exact harm_desc (by kernel_rfl)
 |inr v=>
   show Spec _ _ _ _ _ _
   refine wk (rv:=[.tmp 4]) ann53 168 Tryz.func53 ?_
   simp only[go_sem,Int.reduceBEq,Int.reduceNeg,Int.reduceBNe,w1]
   refine aCall_intro hs ?_
   simp only[go_sem,Int.reduceBEq,Int.reduceNeg,Int.reduceBNe]
theorem prim_2 (a b:Th) (ha:okN a) (hb:okN b):SpecR Tryz.prog 53 [ii 2,pp (.slice ([a,b].map encH))] [] (encP (primP 2 a b)):=by
 obtain ⟨a1,a2⟩:=ha
 obtain ⟨b1,b2⟩:=hb
 have w1:IntKind.i64.wrap (a.n - b.n)=a.n - b.n:=wrapI (by omega) (by omega)
 generalize hr:primP 2 a b=r
 have hs:=number_spec (a.n - b.n)
 have hp:primP 2 a b=numP (a.n - b.n):=rfl
 rw[hp] at hr
 rw[hr] at hs
 cases r with
 |inl e=>
   show SpecP _ _ _ _ _ _
   refine SpecP.walk (rv:=[.tmp 4]) ann53 168 Tryz.func53 mixed rfl rfl (by kernel_rfl) rfl rfl fun hfit=>?_
   clear hfit
   simp only[go_sem,Int.reduceBEq,Int.reduceNeg,Int.reduceBNe,w1]
   refine aCall_pan hs ?_
   simp only[go_sem,Int.reduceBEq,Int.reduceNeg,Int.reduceBNe]
   try exact harm_desc (by kernel_rfl)
 |inr v=>
   show Spec _ _ _ _ _ _
   refine wk (rv:=[.tmp 4]) ann53 168 Tryz.func53 ?_
   simp only[go_sem,Int.reduceBEq,Int.reduceNeg,Int.reduceBNe,w1]
   refine aCall_intro hs ?_
   simp only[go_sem,Int.reduceBEq,Int.reduceNeg,Int.reduceBNe]
theorem prim_3 (a b:Th) (ha:okN a) (hb:okN b):SpecR Tryz.prog 53 [ii 3,pp (.slice ([a,b].map encH))] [] (encP (primP 3 a b)):=by
 generalize hr:primP 3 a b=r
 have hs:=product_spec a.n b.n ha.1 ha.2 hb.1 hb.2
 have hp:primP 3 a b=mulP a.n b.n:=rfl
 rw[hp] at hr
 rw[hr] at hs
 cases r with
 |inl e=>
   show SpecP _ _ _ _ _ _
   refine SpecP.walk (rv:=[.tmp 4]) ann53 168 Tryz.func53 mixed rfl rfl (by kernel_rfl) rfl rfl fun hfit=>?_
   clear hfit
   simp only[go_sem,Int.reduceBEq,Int.reduceNeg,Int.reduceBNe]
   refine aCall_pan hs ?_
   simp only[go_sem,Int.reduceBEq,Int.reduceNeg,Int.reduceBNe]
   try exact harm_desc (by kernel_rfl)
 |inr v=>
   show Spec _ _ _ _ _ _
   refine wk (rv:=[.tmp 4]) ann53 168 Tryz.func53 ?_
   simp only[go_sem,Int.reduceBEq,Int.reduceNeg,Int.reduceBNe]
   refine aCall_intro hs ?_
   simp only[go_sem,Int.reduceBEq,Int.reduceNeg,Int.reduceBNe]
theorem prim_4 (a b:Th) (ha:okN a) (hb:okN b):SpecR Tryz.prog 53 [ii 4,pp (.slice ([a,b].map encH))] [] (encP (primP 4 a b)):=by
 obtain ⟨a1,a2⟩:=ha
 by_cases h0:b.n=0
 · have hp:primP 4 a b=.inl 3:=by show (if b.n=0 then _ else _)=_;rw[if_pos h0]
   rw[hp]
   show SpecP _ _ _ _ _ _
   refine SpecP.walk (rv:=[.tmp 4]) ann53 168 Tryz.func53 mixed rfl rfl (by kernel_rfl) rfl rfl fun hfit=>?_
   clear hfit
   have d0:(b.n==0)=true:=by rw[h0];rfl
   simp only[go_sem,Int.reduceBEq,Int.reduceNeg,Int.reduceBNe,d0]
   refine aCall_pan (failed_spec 3) ?_
   simp only[go_sem,Int.reduceBEq,Int.reduceNeg,Int.reduceBNe]
 · have hp:primP 4 a b=numP (a.n.tdiv b.n):=by show (if b.n=0 then _ else _)=_;rw[if_neg h0]
   have hs:=number_spec (a.n.tdiv b.n)
   rw[hp]
   have d0:(b.n==0)=false:=by rw[beq_eq_false_iff_ne];exact h0
   have e0:(b.n=0)=False:=by simp[h0]
   have w1:=tdiv_wrap a.n b.n a1 a2
   generalize numP (a.n.tdiv b.n)=r at hs
   cases r with
   |inl e=>
     show SpecP _ _ _ _ _ _
     refine SpecP.walk (rv:=[.tmp 4]) ann53 168 Tryz.func53 mixed rfl rfl (by kernel_rfl) rfl rfl fun hfit=>?_
     clear hfit
     simp only[go_sem,Int.reduceBEq,Int.reduceNeg,Int.reduceBNe,d0,e0,w1]
     refine aCall_pan hs ?_
     simp only[go_sem,Int.reduceBEq,Int.reduceNeg,Int.reduceBNe]
     try exact harm_desc (by kernel_rfl)
   |inr v=>
     show Spec _ _ _ _ _ _
     refine wk (rv:=[.tmp 4]) ann53 168 Tryz.func53 ?_
     simp only[go_sem,Int.reduceBEq,Int.reduceNeg,Int.reduceBNe,d0,e0,w1]
     refine aCall_intro hs ?_
     simp only[go_sem,Int.reduceBEq,Int.reduceNeg,Int.reduceBNe]
theorem prim_5 (a b:Th) (ha:okN a) (hb:okN b):SpecR Tryz.prog 53 [ii 5,pp (.slice ([a,b].map encH))] [] (encP (primP 5 a b)):=by
 obtain ⟨a1,a2⟩:=ha
 by_cases h0:b.n=0
 · have hp:primP 5 a b=.inl 3:=by show (if b.n=0 then _ else _)=_;rw[if_pos h0]
   rw[hp]
   show SpecP _ _ _ _ _ _
   refine SpecP.walk (rv:=[.tmp 4]) ann53 168 Tryz.func53 mixed rfl rfl (by kernel_rfl) rfl rfl fun hfit=>?_
   clear hfit
   have d0:(b.n==0)=true:=by rw[h0];rfl
   simp only[go_sem,Int.reduceBEq,Int.reduceNeg,Int.reduceBNe,d0]
   refine aCall_pan (failed_spec 3) ?_
   simp only[go_sem,Int.reduceBEq,Int.reduceNeg,Int.reduceBNe]
 · have hp:primP 5 a b=numP (a.n.tmod b.n):=by show (if b.n=0 then _ else _)=_;rw[if_neg h0]
   have hs:=number_spec (a.n.tmod b.n)
   rw[hp]
   have d0:(b.n==0)=false:=by rw[beq_eq_false_iff_ne];exact h0
   have e0:(b.n=0)=False:=by simp[h0]
   have w1:=tdiv_wrap a.n b.n a1 a2
   generalize numP (a.n.tmod b.n)=r at hs
   cases r with
   |inl e=>
     show SpecP _ _ _ _ _ _
     refine SpecP.walk (rv:=[.tmp 4]) ann53 168 Tryz.func53 mixed rfl rfl (by kernel_rfl) rfl rfl fun hfit=>?_
     clear hfit
     simp only[go_sem,Int.reduceBEq,Int.reduceNeg,Int.reduceBNe,d0,e0,w1]
     refine aCall_pan hs ?_
     simp only[go_sem,Int.reduceBEq,Int.reduceNeg,Int.reduceBNe]
     try exact harm_desc (by kernel_rfl)
   |inr v=>
     show Spec _ _ _ _ _ _
     refine wk (rv:=[.tmp 4]) ann53 168 Tryz.func53 ?_
     simp only[go_sem,Int.reduceBEq,Int.reduceNeg,Int.reduceBNe,d0,e0,w1]
     refine aCall_intro hs ?_
     simp only[go_sem,Int.reduceBEq,Int.reduceNeg,Int.reduceBNe]
theorem prim_6 (a:Th) (ha:okN a):SpecR Tryz.prog 53 [ii 6,pp (.slice ([a].map encH))] [] (encP (primP 6 a a)):=by
 obtain ⟨a1,a2⟩:=ha
 have w1:IntKind.i64.wrap (0 - a.n)=-a.n:=by rw[wrapI (by omega) (by omega)];omega
 generalize hr:primP 6 a a=r
 have hs:=number_spec (-a.n)
 have hp:primP 6 a a=numP (-a.n):=rfl
 rw[hp] at hr
 rw[hr] at hs
 cases r with
 |inl e=>
   show SpecP _ _ _ _ _ _
   refine SpecP.walk (rv:=[.tmp 4]) ann53 168 Tryz.func53 mixed rfl rfl (by kernel_rfl) rfl rfl fun hfit=>?_
   clear hfit
   simp only[go_sem,Int.reduceBEq,Int.reduceNeg,Int.reduceBNe,w1]
   refine aCall_pan hs ?_
   simp only[go_sem,Int.reduceBEq,Int.reduceNeg,Int.reduceBNe]
   try exact harm_desc (by kernel_rfl)
 |inr v=>
   show Spec _ _ _ _ _ _
   refine wk (rv:=[.tmp 4]) ann53 168 Tryz.func53 ?_
   simp only[go_sem,Int.reduceBEq,Int.reduceNeg,Int.reduceBNe,w1]
   refine aCall_intro hs ?_
   simp only[go_sem,Int.reduceBEq,Int.reduceNeg,Int.reduceBNe]
theorem prim_7 (a b:Th):SpecR Tryz.prog 53 [ii 7,pp (.slice ([a,b].map encH))] [] (encP (primP 7 a b)):=by
 have hp:primP 7 a b=.inr (truthH (decide (a.n<b.n))):=rfl
 rw[hp]
 show Spec _ _ _ _ _ _
 refine wk (rv:=[.tmp 4]) ann53 168 Tryz.func53 ?_
 simp only[go_sem,Int.reduceBEq,Int.reduceNeg,Int.reduceBNe]
 refine aCall_intro (truth_spec _) ?_
 simp only[go_sem,Int.reduceBEq,Int.reduceNeg,Int.reduceBNe]
theorem prim_8 (a b:Th):SpecR Tryz.prog 53 [ii 8,pp (.slice ([a,b].map encH))] [] (encP (primP 8 a b)):=by
 have hp:primP 8 a b=.inr (truthH (decide (a.n≤b.n))):=rfl
 rw[hp]
 show Spec _ _ _ _ _ _
 refine wk (rv:=[.tmp 4]) ann53 168 Tryz.func53 ?_
 simp only[go_sem,Int.reduceBEq,Int.reduceNeg,Int.reduceBNe]
 refine aCall_intro (truth_spec _) ?_
 simp only[go_sem,Int.reduceBEq,Int.reduceNeg,Int.reduceBNe]
theorem prim_9 (a b:Th):SpecR Tryz.prog 53 [ii 9,pp (.slice ([a,b].map encH))] [] (encP (primP 9 a b)):=by
 have hp:primP 9 a b=.inr (truthH (a.n==b.n)):=rfl
 rw[hp]
 show Spec _ _ _ _ _ _
 refine wk (rv:=[.tmp 4]) ann53 168 Tryz.func53 ?_
 simp only[go_sem,Int.reduceBEq,Int.reduceNeg,Int.reduceBNe]
 refine aCall_intro (truth_spec _) ?_
 simp only[go_sem,Int.reduceBEq,Int.reduceNeg,Int.reduceBNe]
theorem prim_12 (a b:Th):SpecR Tryz.prog 53 [ii 12,pp (.slice ([a,b].map encH))] [] (encP (primP 12 a b)):=by
 have hp:primP 12 a b=.inr (truthH (a.s.toList==b.s.toList)):=rfl
 rw[hp]
 show Spec _ _ _ _ _ _
 refine wk (rv:=[.tmp 4]) ann53 168 Tryz.func53 ?_
 simp only[go_sem,Int.reduceBEq,Int.reduceNeg,Int.reduceBNe]
 refine aCall_intro (truth_spec _) ?_
 simp only[go_sem,Int.reduceBEq,Int.reduceNeg,Int.reduceBNe]
theorem prim_10 (a b:Th) (ha:a.s.size≤16384) (hb:b.s.size≤16384):SpecR Tryz.prog 53 [ii 10,pp (.slice ([a,b].map encH))] [] (encP (primP 10 a b)):=by
 have hs:=text_spec (a.s++b.s)
 have hp:primP 10 a b=txtP (a.s++b.s):=rfl
 have e0:(a.s.size+b.s.size≤9223372036854775807)=True:=by simp;omega
 generalize hr:primP 10 a b=r
 rw[hp] at hr
 rw[hr] at hs
 cases r with
 |inl e=>
   show SpecP _ _ _ _ _ _
   refine SpecP.walk (rv:=[.tmp 4]) ann53 168 Tryz.func53 mixed rfl rfl (by kernel_rfl) rfl rfl fun hfit=>?_
   clear hfit
   simp only[go_sem,Int.reduceBEq,Int.reduceNeg,Int.reduceBNe,e0]
   refine aCall_pan hs ?_
   simp only[go_sem,Int.reduceBEq,Int.reduceNeg,Int.reduceBNe]
   try exact harm_desc (by kernel_rfl)
 |inr v=>
   show Spec _ _ _ _ _ _
   refine wk (rv:=[.tmp 4]) ann53 168 Tryz.func53 ?_
   simp only[go_sem,Int.reduceBEq,Int.reduceNeg,Int.reduceBNe,e0]
   refine aCall_intro hs ?_
   simp only[go_sem,Int.reduceBEq,Int.reduceNeg,Int.reduceBNe]
theorem prim_11 (a:Th):SpecR Tryz.prog 53 [ii 11,pp (.slice ([a].map encH))] [] (encP (primP 11 a a)):=by
 have hs:=number_spec a.s.size
 have hp:primP 11 a a=numP a.s.size:=rfl
 generalize hr:primP 11 a a=r
 rw[hp] at hr
 rw[hr] at hs
 cases r with
 |inl e=>
   show SpecP _ _ _ _ _ _
   refine SpecP.walk (rv:=[.tmp 4]) ann53 168 Tryz.func53 mixed rfl rfl (by kernel_rfl) rfl rfl fun hfit=>?_
   clear hfit
   simp only[go_sem,Int.reduceBEq,Int.reduceNeg,Int.reduceBNe]
   refine aCall_pan hs ?_
   simp only[go_sem,Int.reduceBEq,Int.reduceNeg,Int.reduceBNe]
   try exact harm_desc (by kernel_rfl)
 |inr v=>
   show Spec _ _ _ _ _ _
   refine wk (rv:=[.tmp 4]) ann53 168 Tryz.func53 ?_
   simp only[go_sem,Int.reduceBEq,Int.reduceNeg,Int.reduceBNe]
   refine aCall_intro hs ?_
   simp only[go_sem,Int.reduceBEq,Int.reduceNeg,Int.reduceBNe]
theorem prim_13 (a:Th) (ha:okN a):SpecR Tryz.prog 53 [ii 13,pp (.slice ([a].map encH))] [] (encP (primP 13 a a)):=by
 obtain ⟨a1,a2⟩:=ha
 have hs:=text_spec (showB a.n)
 have hp:primP 13 a a=txtP (showB a.n):=rfl
 generalize hr:primP 13 a a=r
 rw[hp] at hr
 rw[hr] at hs
 cases r with
 |inl e=>
   show SpecP _ _ _ _ _ _
   refine SpecP.walk (rv:=[.tmp 4]) ann53 168 Tryz.func53 mixed rfl rfl (by kernel_rfl) rfl rfl fun hfit=>?_
   clear hfit
   simp only[go_sem,Int.reduceBEq,Int.reduceNeg,Int.reduceBNe]
   refine aCall_intro (ItoaAll_spec a.n (by omega) (by omega)) ?_
   simp only[go_sem,Int.reduceBEq,Int.reduceNeg,Int.reduceBNe]
   refine aCall_pan hs ?_
   simp only[go_sem,Int.reduceBEq,Int.reduceNeg,Int.reduceBNe]
   try exact harm_desc (by kernel_rfl)
 |inr v=>
   show Spec _ _ _ _ _ _
   refine wk (rv:=[.tmp 4]) ann53 168 Tryz.func53 ?_
   simp only[go_sem,Int.reduceBEq,Int.reduceNeg,Int.reduceBNe]
   refine aCall_intro (ItoaAll_spec a.n (by omega) (by omega)) ?_
   simp only[go_sem,Int.reduceBEq,Int.reduceNeg,Int.reduceBNe]
   refine aCall_intro hs ?_
   simp only[go_sem,Int.reduceBEq,Int.reduceNeg,Int.reduceBNe]
theorem prim_14 (a:Th):SpecR Tryz.prog 53 [ii 14,pp (.slice ([a].map encH))] [] (encP (primP 14 a a)):=by
 have hp:primP 14 a a=.inr unitH:=rfl
 rw[hp]
 show Spec _ _ _ _ _ _
 refine wk (rv:=[.tmp 4]) ann53 168 Tryz.func53 ?_
 simp only[go_sem,Int.reduceBEq,Int.reduceNeg,Int.reduceBNe]
 refine aCall_intro unit_spec ?_
 simp only[go_sem,Int.reduceBEq,Int.reduceNeg,Int.reduceBNe]
theorem kind_spec (v:Th) (k:Int):Spec Tryz.prog 118 [pp (encH v),pp (.ep (.int .i64 k) 0)] [] (.bool (v.op != k)) []:=by
 refine wk (rv:=[.tmp 3]) ann118 10 Tryz.func118 ?_
 simp only[go_sem,Int.reduceBEq,Int.reduceNeg,Int.reduceBNe]
end Go.Abs.Kon
