/- The abstract layer, fourth part: code, loops, and that a walk of a function by its text gives its contract. -/
import Derived.Test.YtafhcphggdipaaaGreatDoorAbsC
import Derived.Laws.Sem
import Derived.KernelRfl
set_option linter.unusedSimpArgs false
set_option linter.unusedVariables false
namespace Go.Abs
open Go
/-! Results -/
def resOf (P:Program) (s:AS):ResultVar→Option PV
 | .tmp t=>(getT s.tmps t).pv?
 | .cell a t=>match getT s.tmps a,szOf P t with
  | .one (.ptr n 0),some k=>match getB s.boxes n with
   |some b=>if b.k=k then b.c.pv? else none
   |none=>none
  |_,_=>none
def resL (P:Program) (s:AS):List ResultVar→Option (List PV)
 | []=>some []
 |x::r=>match resOf P s x,resL P s r with
  |some p,some ps=>some (p::ps)
  |_,_=>none
def resPV:List PV→PV
 | [p]=>p
 |ps=>.tuple ps
def boxesAre (s:AS):Nat→List Box→Prop
 |_,[]=>True
 |j,b::r=>getB s.boxes (.ref j)=some b∧boxesAre s (j+1) r
def finS (P:Program) (rv:List ResultVar) (r:PV) (refs':List Box) (s:AS):Prop:=(resL P s rv).map resPV=some r∧boxesAre s 0 refs'
def finK (P:Program) (rv:List ResultVar) (r:PV) (refs':List Box):AX→AS→Prop
 | .normal,s=>finS P rv r refs' s
 | .ret,s=>finS P rv r refs' s
 | .exit _,_=>False
 | .pan _,_=>False
def finP (q0:PV) (refs':List Box):AX→AS→Prop
 | .normal,_=>False
 | .ret,_=>False
 | .exit _,_=>False
 | .pan q,s=>q=q0∧boxesAre s 0 refs'
theorem boxesAre_get {s:AS}:∀{refs:List Box}{i:Nat},boxesAre s i refs→∀j b,refs[j]? = some b→getB s.boxes (.ref (i+j))=some b
 | [],_,_,j,b,h=>by simp at h
 |b0::r,i,h,0,b,hj=>by simp at hj;subst hj;exact h.1
 |b0::r,i,h,j+1,b,hj=>by
  have:=boxesAre_get (i:=i+1) h.2 j b (by simpa using hj)
  rw[←this];congr 2;omega
section
variable {P:Program}{C:Ctx}{s:AS}{G:Gh}{a:Act}{w:World}
def resRun (tmps:Array Value):ResultVar→Sem Value
 | .tmp t=>pure (tmps.getD t undef)
 | .cell a t=>do loadVar t (←asAddr (tmps.getD a undef))
theorem resOf_run (hR:Reg C s G a w) {x:ResultVar}{p:PV}(h:resOf P s x=some p):∃v,(resRun a.tmps x).run P w=.ok v w∧Rep G.I p v:=by
 cases x with
 |tmp t=>
  simp only[resOf] at h
  exact ⟨_,by simp only[resRun];rfl,SV.pv_rep (hR.st.tmps t) h⟩
 |cell t ty=>
  simp only[resOf] at h
  split at h
  ·rename_i n k ht hk
   split at h
   ·rename_i b hb
    split at h
    ·rename_i hbk
     have h1:=hR.st.tmps t
     have h1':RepSV G s.used (getT s.tmps t) (a.tmps.getD t undef):=h1
     rw[ht] at h1'
     obtain ⟨g,h2,h3⟩:=h1'
     obtain ⟨g',vs,T,u,h4,h5,h6,h7,h8⟩:=(hR.st.boxes n b hb).cells (fun e=>by
      cases hc:b.c with
      |agg cs=>rw[hc] at e;cases e
      |one c=>rw[hc] at e h;cases c<;>first | (cases e;done) | (simp[SV.pv?,SC.pv?] at h))
     rw[h2] at h4;cases h4
     rw[hbk] at h7
     have:=run_loadVar_sz (P:=P) (w:=w) hk (b:=g) (o:=0) h7 (fun j y hj=>by rw[cell_row h5];rw[←h6];simpa using hj)
     refine ⟨u,?_,SV.pv_rep h8 h⟩
     simp only[resRun,h3,asAddr]
     exact this
    ·cases h
   ·cases h
  ·cases h
theorem resL_run (hR:Reg C s G a w):∀{l:List ResultVar}{ps:List PV},resL P s l=some ps→∃vs,(l.mapM (resRun a.tmps)).run P w=.ok vs w∧RepL G.I ps vs
 | [],ps,h=>by
  simp only[resL,Option.some.injEq] at h
  subst h
  exact ⟨[],by simp only[List.mapM_nil];rfl,by simp[RepL]⟩
 |x::r,ps,h=>by
  simp only[resL] at h
  split at h
  ·rename_i p qs hp hq
   cases h
   obtain ⟨v,h1,h2⟩:=resOf_run hR hp
   obtain ⟨vs,h3,h4⟩:=resL_run hR hq
   refine ⟨v::vs,?_,?_⟩
   ·simp only[List.mapM_cons]
    simp[h1,h3]
   ·rw[RepL];exact ⟨v,vs,rfl,h2,h4⟩
  ·cases h
theorem results_run (hR:Reg C s G a w) {fn:Func}{r:PV}(h:(resL P s fn.results.toList).map resPV=some r):∃v,(results fn a.tmps).run P w=.ok v w∧Rep G.I r v:=by
 simp only[Option.map_eq_some_iff] at h
 obtain ⟨ps,h1,rfl⟩:=h
 obtain ⟨vs,h2,h3⟩:=resL_run hR h1
 have he:results fn a.tmps=(do let vs ←fn.results.mapM (resRun a.tmps);pure (if h:vs.size=1 then vs[0] else .tuple vs)):=by
  unfold results
  congr 1
 have hm:(fn.results.mapM (resRun a.tmps)).run P w=.ok vs.toArray w:=by
  rw[Array.mapM_eq_mapM_toList]
  simp[h2]
 refine ⟨_,by rw[he];simp[hm];rfl,?_⟩
 cases ps with
 |nil=>rw[RepL] at h3;subst h3;simp[resPV];rw[Rep];exact ⟨#[],rfl,by simp[RepL]⟩
 |cons p ps=>
  rw[RepL] at h3
  obtain ⟨v,rest,rfl,h4,h5⟩:=h3
  cases ps with
  |nil=>rw[RepL] at h5;subst h5;simpa [resPV] using h4
  |cons q qs=>
   have hl:rest.length≠0:=by
    rw[RepL] at h5
    obtain ⟨_,_,rfl,_⟩:=h5
    simp
   simp only[resPV]
   rw[Rep]
   refine ⟨(v::rest).toArray,?_,by rw[RepL];exact ⟨v,rest,rfl,h4,h5⟩⟩
   simp[hl]
end
/-! What a caller can see -/
def isRefB (k:Nat):Nm→Bool
 | .ref j=>decide (j<k)
 | .loc _=>false
def outer (G0 G:Gh):Gh:=⟨G.I,G0.blk,G.tok,G.cap⟩
theorem RepCaps.outer {G0 G:Gh}{k:Nat}(hb:∀j b,j<k→G.blk (.ref j)=some b→G0.blk (.ref j)=some b):∀{cs:List Cap}{vs:List Value},RepCaps G cs vs→(∀n∈cs.flatMap capNm,isRefB k n=true)→RepCaps (Go.Abs.outer G0 G) cs vs
 | [],vs,h,_=>by simpa [RepCaps] using h
 | .pv p::cs,vs,h,hn=>by
  simp only[RepCaps] at h ⊢
  obtain ⟨v,rest,rfl,h2,h3⟩:=h
  exact ⟨v,rest,rfl,h2,RepCaps.outer hb h3 fun n hm=>hn n (by simp[hm])⟩
 | .ptr (.ref j) off::cs,vs,h,hn=>by
  simp only[RepCaps] at h ⊢
  obtain ⟨b,rest,rfl,h2,h3⟩:=h
  exact ⟨b,rest,rfl,hb _ _ (by simpa [capNm,isRefB] using hn (.ref j) (by simp[capNm])) h2,RepCaps.outer hb h3 fun n hm=>hn n (by simp[hm])⟩
 | .ptr (.loc j) off::cs,vs,h,hn=>by
  have:=hn (.loc j) (by simp[capNm])
  cases this
theorem RepSC.outer {G0 G:Gh}{k:Nat}(hb:∀j b,j<k→G.blk (.ref j)=some b→G0.blk (.ref j)=some b) {c:SC}{v:Value}(h:RepSC G [] c v) (hn:∀n∈scNames c,isRefB k n=true):RepSC (outer G0 G) [] c v:=by
 cases c with
 |ptr n off=>
  simp only[RepSC] at h
  obtain ⟨b,h1,h2⟩:=h
  cases n with
  |ref j=>exact ⟨b,hb j b (by simpa [isRefB] using hn (.ref j) (by simp[scNames])) h1,h2⟩
  |loc d=>have:=hn (.loc d) (by simp[scNames]);cases this
 |fn f caps=>
  simp only[RepSC] at h
  obtain ⟨cv,h1,h2⟩:=h
  exact ⟨cv,h1,RepCaps.outer hb h2 fun n hm=>hn n (by simpa [scNames] using hm)⟩
 |mp n=>
  simp only[RepSC] at h
  obtain ⟨b,h1,h2⟩:=h
  cases n with
  |ref j=>exact ⟨b,hb j b (by simpa [isRefB] using hn (.ref j) (by simp[scNames])) h1,h2⟩
  |loc d=>have:=hn (.loc d) (by simp[scNames]);cases this
 |sl n=>
  simp only[RepSC] at h
  obtain ⟨b,h1,h2⟩:=h
  cases n with
  |ref j=>exact ⟨b,hb j b (by simpa [isRefB] using hn (.ref j) (by simp[scNames])) h1,h2⟩
  |loc d=>have:=hn (.loc d) (by simp[scNames]);cases this
 |rw n m=>
  simp only[RepSC] at h
  obtain ⟨b,cap,h1,h2⟩:=h
  cases n with
  |ref j=>exact ⟨b,cap,hb j b (by simpa [isRefB] using hn (.ref j) (by simp[scNames])) h1,h2⟩
  |loc d=>have:=hn (.loc d) (by simp[scNames]);cases this
 |_=>exact h
theorem RepSCs.outer {G0 G:Gh}{k:Nat}(hb:∀j b,j<k→G.blk (.ref j)=some b→G0.blk (.ref j)=some b):∀{cs:List SC}{vs:List Value},RepSCs G [] cs vs→(∀n∈cs.flatMap scNames,isRefB k n=true)→RepSCs (Go.Abs.outer G0 G) [] cs vs
 | [],vs,h,_=>by simpa [RepSCs] using h
 |c::cs,vs,h,hn=>by
  simp only[RepSCs] at h ⊢
  obtain ⟨v,rest,rfl,h2,h3⟩:=h
  refine ⟨v,rest,rfl,RepSC.outer hb h2 fun n hm=>hn n ?_,RepSCs.outer hb h3 fun n hm=>hn n ?_⟩
  ·rw[List.flatMap_cons];exact List.mem_append_left _ hm
  ·rw[List.flatMap_cons];exact List.mem_append_right _ hm
theorem RepSV.outer {G0 G:Gh}{k:Nat}(hb:∀j b,j<k→G.blk (.ref j)=some b→G0.blk (.ref j)=some b) {c:SV}{v:Value}(h:RepSV G [] c v) (hn:∀n∈svNames c,isRefB k n=true):RepSV (outer G0 G) [] c v:=by
 cases c with
 |one c=>exact RepSC.outer hb (c:=c) h hn
 |agg cs=>
  obtain ⟨vs,h1,h2,h3⟩:=h
  exact ⟨vs,h1,RepSCs.outer hb h2 hn,h3⟩
/-! A contract -/
def numbered:Nat→List SV→List (Nat×SV)
 |_,[]=>[]
 |i,x::r=>(i,x)::numbered (i+1) r
def refBoxes:Nat→List Box→List (Nm×Box)
 |_,[]=>[]
 |i,x::r=>(.ref i,x)::refBoxes (i+1) r
def start (args:List SV) (refs:List Box):AS:=⟨numbered 0 args,refBoxes 0 refs,[]⟩
theorem getT_numbered:∀(l:List SV) (i t:Nat),getT (numbered i l) t=if t<i then .one .any else (l[t - i]?).getD (.one .any)
 | [],i,t=>by simp[numbered,getT]
 |x::r,i,t=>by
  simp only[numbered,getT]
  by_cases h:i=t
  ·subst h;simp
  ·rw[if_neg h,getT_numbered r (i+1) t]
   by_cases h2:t<i
   ·rw[if_pos (by omega),if_pos h2]
   ·rw[if_neg (by omega),if_neg h2]
    have:t - i=t - (i+1)+1:=by omega
    rw[this];simp
theorem getB_refBoxes:∀(l:List Box) (i:Nat) (n:Nm),getB (refBoxes i l) n=match n with
  | .ref j=>if j<i then none else l[j - i]?
  | .loc _=>none
 | [],i,n=>by cases n<;>simp[refBoxes,getB]
 |x::r,i,n=>by
  simp only[refBoxes,getB]
  cases n with
  |loc d=>rw[if_neg (by simp),getB_refBoxes r (i+1) (.loc d)]
  |ref j=>
   by_cases h:i=j
   ·subst h;simp
   ·rw[if_neg (by simpa using h),getB_refBoxes r (i+1) (.ref j)]
    by_cases h2:j<i
    ·simp only[if_pos h2];rw[if_pos (by omega)]
    ·simp only[if_neg h2]
     rw[if_neg (by omega)]
     have:j - i=j - (i+1)+1:=by omega
     rw[this];simp
structure FnOK (P:Program) (f:FuncId) (n:Nat) (c:Code) (rv:List ResultVar) (k:Nat):Prop where
 fn:∃fn,P.funcs[f]? = some fn∧fn.body=some c∧fn.results.toList=rv∧fn.name≠ "runtime.NumGoroutine"∧k+(fn.ntmps - k)=n
 mixed:P.follows .mixedOrders=true
 code:codeOk n c=true
theorem start_reg {C:Ctx}{args:List SV}{refs:List Box}{G:Gh}{w:World}{vs:Array Value}{n:Nat}(hCG:C=⟨G,w,C.n⟩) (h5:args.length+(n - args.length)=C.n) (hvl':vs.size=args.length) (hW:WInv G w) (hev:∀t,G.tok t≠none→t % 2=0) (hblk:∀n,G.blk n≠none→isRef n refs.length)
  (hbox:∀j bx,refs[j]? = some bx→BoxAt G [] w (.ref j) bx) (hargs:RepSVs G [] args vs.toList):Reg C (start args refs) G {tmps:=vs++Array.replicate (n - vs.size) undef,defers:=[]} w:=by
 refine ⟨⟨hW,fun t=>?_,fun m b hb=>?_,rfl,?_,(by rw[hCG];exact Ext.refl _ _ _ _),fun m hm=>?_⟩,hev,rfl⟩
 ·show RepSV G [] (getT (numbered 0 args) t) _
  rw[getT_numbered]
  simp only[Nat.not_lt_zero,if_false,Nat.sub_zero]
  cases ht:args[t]? with
  |none=>trivial
  |some x=>
   obtain ⟨v,h6,h7⟩:=RepSVs.get hargs t x ht
   have:(vs++Array.replicate (n - vs.size) undef).getD t undef=v:=by
    have hlt:t<vs.size:=by
     have:=(List.getElem?_eq_some_iff.1 h6).1
     simpa using this
    rw[Array.getD_eq_getD_getElem?,Array.getElem?_append_left hlt]
    rw[←Array.getElem?_toList,h6];rfl
   rw[this]
   exact h7
 ·have hb':getB (refBoxes 0 refs) m=some b:=hb
  rw[getB_refBoxes] at hb'
  cases m with
  |loc d=>cases hb'
  |ref j=>
   simp only[Nat.not_lt_zero,if_false,Nat.sub_zero] at hb'
   exact hbox j b hb'
 ·simp[hvl',h5]
 ·obtain ⟨j,rfl,hj⟩:=hblk m hm
  show getB (refBoxes 0 refs) (.ref j)≠none
  rw[getB_refBoxes]
  simp[hj]
theorem Spec.intro {P:Program}{f:FuncId}{n:Nat}{c:Code}{rv:List ResultVar}{args:List SV}{refs refs':List Box}{r:PV}(A:Ann) (hf:FnOK P f n c rv args.length) (hlen:refs'.length=refs.length) (hnm:(refs'.flatMap fun b=>svNames b.c).all (isRefB refs.length)=true)
  (h:AWp P A c (finK P rv r refs') (start args refs)):Spec P f args refs r refs':=by
 obtain ⟨⟨fn,h1,h2,h3,h4,h5⟩,hm,hc⟩:=hf
 refine ⟨?_,hlen,fun G w vs hW hev hblk hbox hargs=>?_⟩
 ·simp[bodied,h1,h2,h4]
 ·refine calls_of_wp h1 h2 ?_
  have hvl:=hargs.length
  have hvl':vs.size=args.length:=by simpa using hvl.symm
  let C:Ctx:=⟨G,w,n⟩
  have hC:∀d,C.G.blk (.loc d)=none:=by
   intro d
   cases hb:G.blk (.loc d) with
   |none=>rfl
   |some b=>
    obtain ⟨j,hj,_⟩:=hblk (.loc d) (by rw[hb];simp)
    cases hj
  have hR:=start_reg (C:=C) (n:=fn.ntmps) rfl h5 hvl' hW hev hblk hbox hargs
  refine wp_mono (AWp_sound (C:=C) hm hC c _ _ G _ w hc h hR) ?_
  rintro e a w' ⟨x,s,hx,hq⟩
  have key:∀G',Reg C s G' a w'→finS P rv r refs' s→a.defers=[]∧∃v,(results fn a.tmps).run P w'=.ok v w'∧∃v' G',Ending.returned v=.returned v'∧Rep G'.I r v'∧WInv G' w'∧Ext G G' w w' (fun n=>isRef n refs.length) (fun _=>True)∧(∀j bx,refs'[j]? = some bx→BoxAt G' [] w' (.ref j) bx):=by
   rintro G' hR' ⟨hr,hb⟩
   rw[←h3] at hr
   obtain ⟨v,h6,h7⟩:=results_run hR' hr
   refine ⟨hR'.st.defers,v,h6,v,outer G G',rfl,h7,?_,?_,?_⟩
   ·have hW':=hR'.st.winv
    have hmo:=hR'.st.ext.mono
    exact ⟨hW'.imm,fun x y b h8 h9=>hW'.inj x y b (hmo _ _ h8) (hmo _ _ h9),fun x b h8=>hW'.lt x b (hmo _ _ h8),fun x b h8=>hW'.blkImm x b (hmo _ _ h8),hW'.tokOk,hW'.tokInj,fun t tk g m h8 h9 h10=>hW'.tokBlk t tk g m h8 h9 (hmo _ _ h10),fun g hg=>⟨(hW'.glob g hg).1,fun m h8=>(hW'.glob g hg).2.1 m (hmo _ _ h8),(hW'.glob g hg).2.2⟩⟩
   ·have hE:=hR'.st.ext
    refine ⟨hE.I,hE.INew,fun _ _=>rfl,fun _ _ h=>h,fun _ _ h=>.inl h,fun t ht=>absurd trivial ht,hE.tokNew,fun b hb h8 h9=>?_,hE.size,hE.os,hE.tape,hE.output,hE.cap⟩
    refine hE.heap b hb (fun m _ hm=>?_) h9
    obtain ⟨j,rfl,hj⟩:=hblk m (by rw[hm];simp)
    exact h8 _ ⟨j,rfl,hj⟩ hm
   ·intro j bx hj
    have hg:=boxesAre_get hb j bx hj
    rw[Nat.zero_add] at hg
    have hj':j<refs.length:=by rw[←hlen];exact (List.getElem?_eq_some_iff.1 hj).1
    obtain ⟨g',g1⟩:=(hbox j _ (List.getElem?_eq_getElem hj')).blk
    have hback:∀i b,i<refs.length→G'.blk (.ref i)=some b→G.blk (.ref i)=some b:=by
     intro i b hil hi
     obtain ⟨g2,g3⟩:=(hbox i _ (List.getElem?_eq_getElem hil)).blk
     have:=hR'.st.ext.mono _ _ g3
     rw[hi] at this;cases this
     exact g3
    rcases hR'.st.boxes (.ref j) bx hg with ⟨g,us,T,u,h8,h9,h10,h11,h12⟩|⟨g,ks,es,clock,h8,h9,h10,h11⟩|h8
    ·rw[show s.vw.used=[] from hR'.used] at h12
     refine .inl ⟨g,us,T,u,hback j g hj' h8,h9,h10,h11,RepSV.outer hback h12 fun m hm=>?_⟩
     have:=List.all_eq_true.1 hnm m (List.mem_flatMap.2 ⟨bx,List.mem_of_getElem? hj,hm⟩)
     exact this
    ·exact .inr (.inl ⟨g,ks,es,clock,hback j g hj' h8,h9,h10,h11⟩)
    ·exact .inr (.inr (h8.keep (Imm.le_refl _) (fun b hb=>⟨hback j b hj' hb,rfl⟩) (fun _=>rfl) fun _ _ e=>e))
  cases x with
  |normal=>obtain ⟨rfl,G',hR'⟩:=hx;exact key G' hR' hq
  |ret=>obtain ⟨rfl,G',hR'⟩:=hx;exact key G' hR' hq
  |exit id=>exact hq.elim
  |pan q=>exact hq.elim
theorem SpecP.intro {P:Program}{f:FuncId}{n:Nat}{c:Code}{rv:List ResultVar}{args:List SV}{refs refs':List Box}{q:PV}(A:Ann) (hf:FnOK P f n c rv args.length) (hlen:refs'.length=refs.length) (hnm:(refs'.flatMap fun b=>svNames b.c).all (isRefB refs.length)=true)
  (h:AWp P A c (finP q refs') (start args refs)):SpecP P f args refs q refs':=by
 obtain ⟨⟨fn,h1,h2,h3,h4,h5⟩,hm,hc⟩:=hf
 refine ⟨?_,hlen,fun G w vs hW hev hblk hbox hargs=>?_⟩
 ·simp[bodied,h1,h2,h4]
 ·refine calls_of_wp h1 h2 ?_
  have hvl:=hargs.length
  have hvl':vs.size=args.length:=by simpa using hvl.symm
  let C:Ctx:=⟨G,w,n⟩
  have hC:∀d,C.G.blk (.loc d)=none:=by
   intro d
   cases hb:G.blk (.loc d) with
   |none=>rfl
   |some b=>
    obtain ⟨j,hj,_⟩:=hblk (.loc d) (by rw[hb];simp)
    cases hj
  have hR:=start_reg (C:=C) (n:=fn.ntmps) rfl h5 hvl' hW hev hblk hbox hargs
  refine wp_mono (AWp_sound (C:=C) hm hC c _ _ G _ w hc h hR) ?_
  rintro e a w' ⟨x,s,hx,hq⟩
  cases x with
  |normal=>exact hq.elim
  |ret=>exact hq.elim
  |exit id=>exact hq.elim
  |pan q'=>
   obtain ⟨rfl,hb⟩:=hq
   obtain ⟨v,G',rfl,hd,hr,hP⟩:=hx
   refine ⟨hd,v,outer G G',rfl,hr,?_,?_,?_⟩
   ·have hW':=hP.winv
    have hmo:=hP.ext.mono
    exact ⟨hW'.imm,fun x y b h8 h9=>hW'.inj x y b (hmo _ _ h8) (hmo _ _ h9),fun x b h8=>hW'.lt x b (hmo _ _ h8),fun x b h8=>hW'.blkImm x b (hmo _ _ h8),hW'.tokOk,hW'.tokInj,fun t tk g m h8 h9 h10=>hW'.tokBlk t tk g m h8 h9 (hmo _ _ h10),fun g hg=>⟨(hW'.glob g hg).1,fun m h8=>(hW'.glob g hg).2.1 m (hmo _ _ h8),(hW'.glob g hg).2.2⟩⟩
   ·have hE:=hP.ext
    refine ⟨hE.I,hE.INew,fun _ _=>rfl,fun _ _ h=>h,fun _ _ h=>.inl h,fun t ht=>absurd trivial ht,hE.tokNew,fun b hb h8 h9=>?_,hE.size,hE.os,hE.tape,hE.output,hE.cap⟩
    refine hE.heap b hb (fun m _ hm=>?_) h9
    obtain ⟨j,rfl,hj⟩:=hblk m (by rw[hm];simp)
    exact h8 _ ⟨j,rfl,hj⟩ hm
   ·intro j bx hj
    have hg:=boxesAre_get hb j bx hj
    rw[Nat.zero_add] at hg
    have hj':j<refs.length:=by rw[←hlen];exact (List.getElem?_eq_some_iff.1 hj).1
    have hback:∀i b,i<refs.length→G'.blk (.ref i)=some b→G.blk (.ref i)=some b:=by
     intro i b hil hi
     obtain ⟨g2,g3⟩:=(hbox i _ (List.getElem?_eq_getElem hil)).blk
     have:=hP.ext.mono _ _ g3
     rw[hi] at this;cases this
     exact g3
    rcases hP.boxes j bx hg with ⟨g,us,T,u,h8,h9,h10,h11,h12⟩|⟨g,ks,es,clock,h8,h9,h10,h11⟩|h8
    ·refine .inl ⟨g,us,T,u,hback j g hj' h8,h9,h10,h11,RepSV.outer hback h12 fun m hm=>?_⟩
     have:=List.all_eq_true.1 hnm m (List.mem_flatMap.2 ⟨bx,List.mem_of_getElem? hj,hm⟩)
     exact this
    ·exact .inr (.inl ⟨g,ks,es,clock,hback j g hj' h8,h9,h10,h11⟩)
    ·exact .inr (.inr (h8.keep (Imm.le_refl _) (fun b hb=>⟨hback j b hj' hb,rfl⟩) (fun _=>rfl) fun _ _ e=>e))
/-! A contract of a function whose only result is a slice of the caller's own -/
def exOf (s:AS) (k:Sz) (es:List PV):List ResultVar→Prop
 | [.tmp t]=>∃tok,getT s.tmps t=.one (.ex tok k es)
 |_=>False
def finX (k:Sz) (es:List PV) (rv:List ResultVar):AX→AS→Prop
 | .normal,s=>exOf s k es rv
 | .ret,s=>exOf s k es rv
 | .exit _,_=>False
 | .pan _,_=>False
theorem SpecX.intro {P:Program}{f:FuncId}{n:Nat}{c:Code}{rv:List ResultVar}{args:List SV}{k:Sz}{es:List PV}(A:Ann) (hf:FnOK P f n c rv args.length) (hsz:∀e∈es,e.hasSz k=true)
  (h:AWp P A c (finX k es rv) (start args [])):SpecX P f args k es:=by
 obtain ⟨⟨fn,h1,h2,h3,h4,h5⟩,hm,hc⟩:=hf
 refine ⟨?_,hsz,fun G w vs hW hev hblk hargs=>?_⟩
 ·simp[bodied,h1,h2,h4]
 ·refine calls_of_wp h1 h2 ?_
  have hvl:=hargs.length
  have hvl':vs.size=args.length:=by simpa using hvl.symm
  let C:Ctx:=⟨G,w,n⟩
  have hC:∀d,C.G.blk (.loc d)=none:=fun d=>hblk _
  have hR:Reg C (start args []) G {tmps:=vs++Array.replicate (fn.ntmps - vs.size) undef,defers:=[]} w:=by
   refine ⟨⟨hW,fun t=>?_,fun m b hb=>?_,rfl,?_,Ext.refl _ _ _ _,fun m hm=>?_⟩,fun t ht=>absurd (hev t) ht,rfl⟩
   ·show RepSV G [] (getT (numbered 0 args) t) _
    rw[getT_numbered]
    simp only[Nat.not_lt_zero,if_false,Nat.sub_zero]
    cases ht:args[t]? with
    |none=>trivial
    |some x=>
     obtain ⟨v,h6,h7⟩:=RepSVs.get hargs t x ht
     have:(vs++Array.replicate (fn.ntmps - vs.size) undef).getD t undef=v:=by
      have hlt:t<vs.size:=by
       have:=(List.getElem?_eq_some_iff.1 h6).1
       simpa using this
      rw[Array.getD_eq_getD_getElem?,Array.getElem?_append_left hlt]
      rw[←Array.getElem?_toList,h6];rfl
     rw[this]
     exact h7
   ·cases hb
   ·simp[hvl',C,h5]
   ·exact absurd (hblk m) hm
  refine wp_mono (AWp_sound (C:=C) hm hC c _ _ G _ w hc h hR) ?_
  rintro e a w' ⟨x,s,hx,hq⟩
  have key:∀G',Reg C s G' a w'→exOf s k es rv→a.defers=[]∧∃v,(results fn a.tmps).run P w'=.ok v w'∧∃v' G' t tk,Ending.returned v=.returned v'∧G'.tok t=some tk∧ExAt G'.I tk k es v'∧WInv G' w'∧Ext G G' w w' (fun _=>False) (fun _=>True):=by
   intro G' hR' hx
   rw[←h3] at hx
   unfold exOf at hx
   split at hx
   ·rename_i t hrt
    obtain ⟨tok,ht⟩:=hx
    have h6:=hR'.st.tmps t
    have h6':RepSV G' s.used (getT s.tmps t) (a.tmps.getD t undef):=h6
    rw[ht] at h6'
    rw[show s.used=[] from hR'.used] at h6'
    obtain ⟨tk,h7,h8⟩:=h6'.2.2 (by simp)
    refine ⟨hR'.st.defers,a.tmps.getD t undef,?_,_,outer G G',tok,tk,rfl,h7,h8,?_,?_⟩
    ·have hs:fn.results=#[.tmp t]:=by
      apply Array.ext'
      simpa using hrt
     unfold results
     rw[hs]
     simp
    ·have hW':=hR'.st.winv
     have hmo:=hR'.st.ext.mono
     exact ⟨hW'.imm,fun x y b h8 h9=>hW'.inj x y b (hmo _ _ h8) (hmo _ _ h9),fun x b h8=>hW'.lt x b (hmo _ _ h8),fun x b h8=>hW'.blkImm x b (hmo _ _ h8),hW'.tokOk,hW'.tokInj,fun t tk g m h8 h9 h10=>hW'.tokBlk t tk g m h8 h9 (hmo _ _ h10),fun g hg=>⟨(hW'.glob g hg).1,fun m h8=>(hW'.glob g hg).2.1 m (hmo _ _ h8),(hW'.glob g hg).2.2⟩⟩
    ·have hE:=hR'.st.ext
     refine ⟨hE.I,hE.INew,fun _ _=>rfl,fun _ _ h=>h,fun _ _ h=>.inl h,fun t ht=>absurd trivial ht,hE.tokNew,fun b hb h8 h9=>?_,hE.size,hE.os,hE.tape,hE.output,hE.cap⟩
     refine hE.heap b hb (fun m _ hm=>?_) h9
     rw[hblk m] at hm;cases hm
   ·exact hx.elim
  cases x with
  |normal=>obtain ⟨rfl,G',hR'⟩:=hx;exact key G' hR' hq
  |ret=>obtain ⟨rfl,G',hR'⟩:=hx;exact key G' hR' hq
  |exit id=>exact hq.elim
  |pan q=>exact hq.elim
end Go.Abs
namespace Go.Abs
open Go
def fnChk (fn:Func) (n k:Nat) (c:Code):Bool:=!(fn.name== "runtime.NumGoroutine")&&k+(fn.ntmps - k)==n&&codeOk n c
theorem Spec.of {P:Program}{f:FuncId}{fn:Func}{c:Code}{rv:List ResultVar}{args:List SV}{refs refs':List Box}{r:PV}(A:Ann) (n:Nat) (hf:P.funcs[f]? = some fn) (hm:P.follows .mixedOrders=true) (hb:fn.body=some c) (hr:fn.results.toList=rv)
  (hk:fnChk fn n args.length c=true) (hlen:refs'.length=refs.length) (hnm:(refs'.flatMap fun b=>svNames b.c).all (isRefB refs.length)=true)
  (h:AWp P A c (finK P rv r refs') (start args refs)):Spec P f args refs r refs':=by
 simp only[fnChk,Bool.and_eq_true,Bool.not_eq_true',beq_eq_false_iff_ne,beq_iff_eq] at hk
 exact Spec.intro A ⟨⟨fn,hf,hb,hr,hk.1.1,hk.1.2⟩,hm,hk.2⟩ hlen hnm h
theorem SpecP.of {P:Program}{f:FuncId}{fn:Func}{c:Code}{rv:List ResultVar}{args:List SV}{refs refs':List Box}{q:PV}(A:Ann) (n:Nat) (hf:P.funcs[f]? = some fn) (hm:P.follows .mixedOrders=true) (hb:fn.body=some c) (hr:fn.results.toList=rv)
  (hk:fnChk fn n args.length c=true) (hlen:refs'.length=refs.length) (hnm:(refs'.flatMap fun b=>svNames b.c).all (isRefB refs.length)=true)
  (h:AWp P A c (finP q refs') (start args refs)):SpecP P f args refs q refs':=by
 simp only[fnChk,Bool.and_eq_true,Bool.not_eq_true',beq_eq_false_iff_ne,beq_iff_eq] at hk
 exact SpecP.intro A ⟨⟨fn,hf,hb,hr,hk.1.1,hk.1.2⟩,hm,hk.2⟩ hlen hnm h
theorem SpecX.of {P:Program}{f:FuncId}{fn:Func}{c:Code}{rv:List ResultVar}{args:List SV}{k:Sz}{es:List PV}(A:Ann) (n:Nat) (hf:P.funcs[f]? = some fn) (hm:P.follows .mixedOrders=true) (hb:fn.body=some c) (hr:fn.results.toList=rv)
  (hk:fnChk fn n args.length c=true) (hsz:∀e∈es,e.hasSz k=true)
  (h:AWp P A c (finX k es rv) (start args [])):SpecX P f args k es:=by
 simp only[fnChk,Bool.and_eq_true,Bool.not_eq_true',beq_eq_false_iff_ne,beq_iff_eq] at hk
 exact SpecX.intro A ⟨⟨fn,hf,hb,hr,hk.1.1,hk.1.2⟩,hm,hk.2⟩ hsz h
/-! Evaluation -/
theorem condK_true {X Y:(AX→AS→Prop)→AS→Prop}{Q:AX→AS→Prop}{s:AS}:condK true X Y Q s=X Q s:=by simp[condK]
theorem condK_false {X Y:(AX→AS→Prop)→AS→Prop}{Q:AX→AS→Prop}{s:AS}:condK false X Y Q s=Y Q s:=by simp[condK]
theorem condK_intro {b:Bool}{X Y:(AX→AS→Prop)→AS→Prop}{Q:AX→AS→Prop}{s:AS}(h1:b=true→X Q s) (h2:b=false→Y Q s):condK b X Y Q s:=⟨h1,h2⟩
section
variable {step:AS→(Eff→List Nm→Prop)→Prop}{op:AS→List LogE→(AS→List LogE→Prop)→Eff→List Nm→Prop}{next:AS→List LogE→Prop}{s:AS}{t:Nat}{dst:Option Nat}{log:List LogE}
theorem guardK_tt:guardK true true step op next s t dst log=step (s.setTmp t (bv true)) (op (s.setTmp t (bv true)) log next):=by simp[guardK]
theorem guardK_ff:guardK false false step op next s t dst log=step (s.setTmp t (bv false)) (op (s.setTmp t (bv false)) log next):=by simp[guardK]
theorem guardK_tf:guardK true false step op next s t dst log=next ((s.setTmp t (bv true)).app dst skipEff) log:=by simp[guardK]
theorem guardK_ft:guardK false true step op next s t dst log=next ((s.setTmp t (bv false)).app dst skipEff) log:=by simp[guardK]
theorem guardK_intro {b want:Bool}(h1:b=want→step (s.setTmp t (bv want)) (op (s.setTmp t (bv want)) log next)) (h2:b=!want→next ((s.setTmp t (bv (!want))).app dst skipEff) log):guardK b want step op next s t dst log:=⟨h1,h2⟩
end
end Go.Abs
namespace Go.Abs
open Go
mutual
def PV.fit:PV→Prop
 | .slice es=>es.length≤maxLen∧fitL es
 | .ep x _=>PV.fit x
 | .agg cs=>fitL cs
 | .tuple vs=>fitL vs
 | .fn _ caps=>fitL caps
 | .bool _=>True
 | .int _ _=>True
 | .str _=>True
 | .nilp=>True
 | .nilfn=>True
 | .nili=>True
 | .nilsl=>True
 | .fx ps e=>fitL ps∧PV.fit e
 | .fxc ps e=>fitL ps∧PV.fit e
 | .ifc _ p=>PV.fit p
 | .err=>True
def fitL:List PV→Prop
 | []=>True
 |p::r=>PV.fit p∧fitL r
end
mutual
theorem Rep.fit {I:Imm}:∀(p:PV) (v:Value),Rep I p v→p.fit
 | .slice es,v,h=>by
  rw[Rep] at h
  obtain ⟨a,len,cap,k,_,h2,h3,h4,h5⟩:=h
  refine ⟨by omega,?_⟩
  rcases h5 with h5|⟨b,o,_,h6⟩
  ·rw[h5];trivial
  ·exact RepE.fit k es b o h6
 | .ep x off,v,h=>by
  rw[Rep] at h
  obtain ⟨b,o,u,k,_,h2,_⟩:=h
  exact Rep.fit x u h2
 | .agg cs,v,h=>by
  rw[Rep] at h
  obtain ⟨vs,_,h2,_⟩:=h
  exact RepL.fit cs _ h2
 | .tuple cs,v,h=>by
  rw[Rep] at h
  obtain ⟨vs,_,h2⟩:=h
  exact RepL.fit cs _ h2
 | .fn f cs,v,h=>by
  rw[Rep] at h
  obtain ⟨vs,_,h2⟩:=h
  exact RepL.fit cs _ h2
 | .bool _,_,_=>trivial
 | .int _ _,_,_=>trivial
 | .str _,_,_=>trivial
 | .nilp,_,_=>trivial
 | .nilfn,_,_=>trivial
 | .nili,_,_=>trivial
 | .nilsl,_,_=>trivial
 | .fx ps e,v,h=>by
  rw[Rep] at h
  obtain ⟨b1,b2,us,u,_,h2,h3,_⟩:=h
  exact ⟨RepL.fit ps _ h2,Rep.fit e _ h3⟩
 | .fxc ps e,v,h=>by
  rw[Rep] at h
  obtain ⟨b1,b2,us,u,_,h2,h3,_⟩:=h
  exact ⟨RepL.fit ps _ h2,Rep.fit e _ h3⟩
 | .ifc t p,v,h=>by
  rw[Rep] at h
  obtain ⟨u,_,h2⟩:=h
  exact Rep.fit p _ h2
 | .err,_,_=>trivial
theorem RepE.fit {I:Imm}(k:Sz):∀(es:List PV) (b o:Nat),RepE I k es b o→fitL es
 | [],_,_,_=>trivial
 |e::es,b,o,h=>by
  rw[RepE] at h
  obtain ⟨⟨u,h1,_⟩,h2⟩:=h
  exact ⟨Rep.fit e u h1,RepE.fit k es b _ h2⟩
theorem RepL.fit {I:Imm}:∀(ps:List PV) (vs:List Value),RepL I ps vs→fitL ps
 | [],_,_=>trivial
 |p::ps,vs,h=>by
  rw[RepL] at h
  obtain ⟨v,rest,_,h1,h2⟩:=h
  exact ⟨Rep.fit p v h1,RepL.fit ps rest h2⟩
end
def argsFit:List SV→Prop
 | []=>True
 |x::r=>(match x.pv? with|some p=>p.fit|none=>True)∧argsFit r
theorem RepSVs.fit {G:Gh}{used:List Nat}:∀{xs:List SV}{vs:List Value},RepSVs G used xs vs→argsFit xs
 | [],_,_=>trivial
 |x::xs,vs,h=>by
  simp only[RepSVs] at h
  obtain ⟨v,rest,rfl,h2,h3⟩:=h
  refine ⟨?_,RepSVs.fit h3⟩
  cases hp:x.pv? with
  |none=>trivial
  |some p=>exact Rep.fit p v (SV.pv_rep h2 hp)
theorem Spec.walk {P:Program}{f:FuncId}{fn:Func}{c:Code}{rv:List ResultVar}{args:List SV}{refs refs':List Box}{r:PV}(A:Ann) (n:Nat) (hf:P.funcs[f]? = some fn) (hm:P.follows .mixedOrders=true) (hb:fn.body=some c) (hr:fn.results.toList=rv)
  (hk:fnChk fn n args.length c=true) (hlen:refs'.length=refs.length) (hnm:(refs'.flatMap fun b=>svNames b.c).all (isRefB refs.length)=true)
  (h:argsFit args→AWp P A c (finK P rv r refs') (start args refs)):Spec P f args refs r refs':=by
 by_cases ha:argsFit args
 ·exact Spec.of A n hf hm hb hr hk hlen hnm (h ha)
 ·refine ⟨?_,hlen,fun G w vs _ _ _ _ hargs=>absurd hargs.fit ha⟩
  simp only[fnChk,Bool.and_eq_true,Bool.not_eq_true',beq_eq_false_iff_ne,beq_iff_eq] at hk
  simp[bodied,hf,hb,hk.1.1]
theorem SpecP.walk {P:Program}{f:FuncId}{fn:Func}{c:Code}{rv:List ResultVar}{args:List SV}{refs refs':List Box}{q:PV}(A:Ann) (n:Nat) (hf:P.funcs[f]? = some fn) (hm:P.follows .mixedOrders=true) (hb:fn.body=some c) (hr:fn.results.toList=rv)
  (hk:fnChk fn n args.length c=true) (hlen:refs'.length=refs.length) (hnm:(refs'.flatMap fun b=>svNames b.c).all (isRefB refs.length)=true)
  (h:argsFit args→AWp P A c (finP q refs') (start args refs)):SpecP P f args refs q refs':=by
 by_cases ha:argsFit args
 ·exact SpecP.of A n hf hm hb hr hk hlen hnm (h ha)
 ·refine ⟨?_,hlen,fun G w vs _ _ _ _ hargs=>absurd hargs.fit ha⟩
  simp only[fnChk,Bool.and_eq_true,Bool.not_eq_true',beq_eq_false_iff_ne,beq_iff_eq] at hk
  simp[bodied,hf,hb,hk.1.1]
/-! A contract that may be either -/
inductive Res where
 |ret (r:PV) (refs:List Box)
 |pan (q:PV) (refs:List Box)
def Res.refs:Res→List Box
 | .ret _ l=>l
 | .pan _ l=>l
def SpecR (P:Program) (f:FuncId) (args:List SV) (refs:List Box):Res→Prop
 | .ret r refs'=>Spec P f args refs r refs'
 | .pan q refs'=>SpecP P f args refs q refs'
def finR (P:Program) (rv:List ResultVar) (res:Res) (x:AX) (s:AS):Prop:=
 match res with
 | .ret r refs'=>finK P rv r refs' x s
 | .pan q refs'=>finP q refs' x s
theorem SpecR.walk {P:Program}{f:FuncId}{fn:Func}{c:Code}{rv:List ResultVar}{args:List SV}{refs:List Box}{res:Res}(A:Ann) (n:Nat) (hf:P.funcs[f]? = some fn) (hm:P.follows .mixedOrders=true) (hb:fn.body=some c) (hr:fn.results.toList=rv)
  (hk:fnChk fn n args.length c=true) (hlen:res.refs.length=refs.length) (hnm:(res.refs.flatMap fun b=>svNames b.c).all (isRefB refs.length)=true)
  (h:argsFit args→AWp P A c (finR P rv res) (start args refs)):SpecR P f args refs res:=by
 cases res with
 |ret r refs'=>exact Spec.walk A n hf hm hb hr hk hlen hnm h
 |pan q refs'=>exact SpecP.walk A n hf hm hb hr hk hlen hnm h
def resK (k kp:PV→List Box→Prop):Res→Prop
 | .ret r refs'=>k r refs'
 | .pan q refs'=>kp q refs'
theorem resK_ret (k kp:PV→List Box→Prop) (r:PV) (refs':List Box):resK k kp (.ret r refs')=k r refs':=rfl
theorem resK_pan (k kp:PV→List Box→Prop) (r:PV) (refs':List Box):resK k kp (.pan r refs')=kp r refs':=rfl
theorem finR_ret (P:Program) (rv:List ResultVar) (r:PV) (refs':List Box) (x:AX) (s:AS):finR P rv (.ret r refs') x s=finK P rv r refs' x s:=rfl
theorem finR_pan (P:Program) (rv:List ResultVar) (r:PV) (refs':List Box) (x:AX) (s:AS):finR P rv (.pan r refs') x s=finP r refs' x s:=rfl
theorem wrap_id {x:Int}(h1:-9223372036854775808≤x) (h2:x≤9223372036854775807):IntKind.i64.wrap x=x:=by
 simp only[IntKind.wrap,IntKind.bits,IntKind.signed]
 simp
 omega
theorem maxLen_eq:maxLen=9223372036854775807:=rfl
/-! Evaluation, a step a law -/
section
variable {P:Program}{A:Ann}{ops:Array Oper}{draw:Bool}{Q:AX→AS→Prop}{s:AS}
theorem AWp_skip:AWp P A .skip Q s=Q .normal s:=rfl
theorem AWp_label (l:Nat):AWp P A (.label l) Q s=Q .normal s:=rfl
theorem AWp_region (id:Nat):AWp P A (.region id ops draw) Q s=if A.frz.contains (2000000+id)=true then aFlipOr P A id ops draw Q s else aOps P A ops draw (panQ Q) (regK A id Q) ops.toList 0 (s.pre A ops.toList) []:=rfl
theorem AWp_seq (x y:Code):AWp P A (.seq x y) Q s=AWp P A x (seqK (AWp P A y Q) Q) s:=rfl
def condV (v:SV) (X Y:(AX→AS→Prop)→AS→Prop) (Q:AX→AS→Prop) (s:AS):Prop:=
 match v with
 | .one (.pv (.bool b))=>condK b X Y Q s
 |_=>False
theorem AWp_cond (c:Operand) (x y:Code):AWp P A (.cond c x y) Q s=condV (s.ev c) (decK (AWp P A x) c true) (decK (AWp P A y) c false) Q s:=rfl
theorem decK_eq (X:(AX→AS→Prop)→AS→Prop) (c:Operand) (b:Bool):decK X c b Q s=X Q (s.decided b c):=rfl
theorem condV_bool (b:Bool) (X Y:(AX→AS→Prop)→AS→Prop):condV (.one (.pv (.bool b))) X Y Q s=condK b X Y Q s:=rfl
theorem AWp_block (id:Nat) (c:Code):AWp P A (.block id c) Q s=AWp P A c (blockK id Q) s:=rfl
theorem AWp_loop (c:Code):AWp P A (.loop c) Q s=∃n,aLoop (AWp P A c) (AS.head A c) Q n s:=rfl
theorem aLoop_succ (body:(AX→AS→Prop)→AS→Prop) (hd:AS→AS) (n:Nat):aLoop body hd Q (n+1) s=body (seqK (aLoop body hd Q n) Q) (hd s):=rfl
theorem AWp_scope (c:Code):AWp P A (.scope c) Q s=AWp P A c Q s:=rfl
theorem AWp_exit (id:Nat):AWp P A (.exit id) Q s=Q (.exit id) s:=rfl
theorem AWp_ret:AWp P A .ret Q s=Q .ret s:=rfl
theorem regK_eq (id:Nat):regK A id Q s=Q .normal ((s.live (findL A.live id)).out A id):=rfl
theorem seqK_normal (N:AS→Prop):seqK N Q .normal s=N s:=rfl
theorem seqK_exit (N:AS→Prop) (id:Nat):seqK N Q (.exit id) s=Q (.exit id) s:=rfl
theorem seqK_ret (N:AS→Prop):seqK N Q .ret s=Q .ret s:=rfl
theorem seqK_pan (N:AS→Prop) (q:PV):seqK N Q (.pan q) s=Q (.pan q) s:=rfl
theorem blockK_pan (id:Nat) (q:PV):blockK id Q (.pan q) s=Q (.pan q) s:=rfl
theorem finP_normal (q0:PV) (refs':List Box):finP q0 refs' .normal s=False:=rfl
theorem finP_ret (q0:PV) (refs':List Box):finP q0 refs' .ret s=False:=rfl
theorem finP_pan (q0:PV) (refs':List Box) (q:PV):finP q0 refs' (.pan q) s=(q=q0∧boxesAre s 0 refs'):=rfl
theorem finK_pan (rv:List ResultVar) (r:PV) (refs':List Box) (q:PV):finK P rv r refs' (.pan q) s=False:=rfl
theorem blockK_normal (id:Nat):blockK id Q .normal s=Q .normal s:=rfl
theorem blockK_exit (id i:Nat):blockK id Q (.exit i) s=if i=id then Q .normal s else Q (.exit i) s:=rfl
theorem blockK_ret (id:Nat):blockK id Q .ret s=Q .ret s:=rfl
theorem finK_normal (rv:List ResultVar) (r:PV) (refs':List Box):finK P rv r refs' .normal s=finS P rv r refs' s:=rfl
theorem finK_ret (rv:List ResultVar) (r:PV) (refs':List Box):finK P rv r refs' .ret s=finS P rv r refs' s:=rfl
variable {KP:PV→AS→Prop}{K:AS→Prop}{rest:List Oper}{i:Nat}{log:List LogE}
theorem aOps_nil:aOps P A ops draw KP K [] i s log=K s:=rfl
theorem aOps_cons (dst:Option Nat) (op:Op) (ty:TypeId) (pos:String) (aft:Array Edge):aOps P A ops draw KP K (⟨dst,op,ty,pos,aft,none⟩::rest) i s log=aOp P A ⟨dst,op,ty,pos,aft,none⟩ s (opK ops draw i dst s log (aOps P A ops draw KP K rest (i+1))) (panK P A ops draw i rest log KP s):=rfl
def guardV (v:SV) (want:Bool) (step:AS→(Eff→List Nm→Prop)→Prop) (op:AS→List LogE→(AS→List LogE→Prop)→Eff→List Nm→Prop) (next:AS→List LogE→Prop) (s:AS) (t:Nat) (dst:Option Nat) (log:List LogE):Prop:=
 match v with
 | .one (.pv (.bool b))=>guardK b want step op next s t dst log
 | .one (.pv (.tuple []))=>next (s.app dst skipEff) log
 |_=>False
def guardS (t:Option Nat) (want:Bool) (step:AS→(Eff→List Nm→Prop)→Prop) (op:AS→List LogE→(AS→List LogE→Prop)→Eff→List Nm→Prop) (next:AS→List LogE→Prop) (s:AS) (dst:Option Nat) (log:List LogE):Prop:=
 match t with
 |none=>False
 |some t=>guardV (getT s.tmps t) want step op next s t dst log
theorem aOps_guard (dst:Option Nat) (op:Op) (ty:TypeId) (pos:String) (aft:Array Edge) (j:Nat) (want:Bool):aOps P A ops draw KP K (⟨dst,op,ty,pos,aft,some (j,want)⟩::rest) i s log =
  guardS (slotOf ops j) want (aOpP P A ⟨dst,op,ty,pos,aft,some (j,want)⟩ (panK P A ops draw i rest log KP)) (opK ops draw i dst) (aOps P A ops draw KP K rest (i+1)) s dst log:=rfl
theorem guardS_some (t:Nat) (want:Bool) (step:AS→(Eff→List Nm→Prop)→Prop) (op:AS→List LogE→(AS→List LogE→Prop)→Eff→List Nm→Prop) (next:AS→List LogE→Prop) (dst:Option Nat):guardS (some t) want step op next s dst log=guardV (getT s.tmps t) want step op next s t dst log:=rfl
theorem guardV_bool (b:Bool) (t:Nat) (want:Bool) (step:AS→(Eff→List Nm→Prop)→Prop) (op:AS→List LogE→(AS→List LogE→Prop)→Eff→List Nm→Prop) (next:AS→List LogE→Prop) (dst:Option Nat):guardV (.one (.pv (.bool b))) want step op next s t dst log=guardK b want step op next s t dst log:=rfl
variable {dst:Option Nat}{ty:TypeId}{pos:String}{aft:Array Edge}{g:Option (Nat×Bool)}{k:Eff→List Nm→Prop}{kp:PV→Eff→List Nm→Prop}
theorem aOp_move (x:Operand):aOp P A ⟨dst,.move x,ty,pos,aft,g⟩ s k kp=pureK (aPure P A ⟨dst,.move x,ty,pos,aft,g⟩ s.ev (getB s.boxes)) (touchOf A ⟨dst,.move x,ty,pos,aft,g⟩ s.ev) k:=rfl
theorem aOp_assign (x:Operand):aOp P A ⟨dst,.assign x,ty,pos,aft,g⟩ s k kp=pureK (aPure P A ⟨dst,.assign x,ty,pos,aft,g⟩ s.ev (getB s.boxes)) (touchOf A ⟨dst,.assign x,ty,pos,aft,g⟩ s.ev) k:=rfl
theorem aOp_pick (c a b:Operand):aOp P A ⟨dst,.pick c a b,ty,pos,aft,g⟩ s k kp=pureK (aPure P A ⟨dst,.pick c a b,ty,pos,aft,g⟩ s.ev (getB s.boxes)) (touchOf A ⟨dst,.pick c a b,ty,pos,aft,g⟩ s.ev) k:=rfl
theorem aOp_alloc (t:TypeId):aOp P A ⟨dst,.alloc t,ty,pos,aft,g⟩ s k kp=pureK (aPure P A ⟨dst,.alloc t,ty,pos,aft,g⟩ s.ev (getB s.boxes)) (touchOf A ⟨dst,.alloc t,ty,pos,aft,g⟩ s.ev) k:=rfl
theorem aOp_makeMap (t:TypeId) (r:Option Operand):aOp P A ⟨dst,.makeMap t r,ty,pos,aft,g⟩ s k kp=pureK (aPure P A ⟨dst,.makeMap t r,ty,pos,aft,g⟩ s.ev (getB s.boxes)) (touchOf A ⟨dst,.makeMap t r,ty,pos,aft,g⟩ s.ev) k:=rfl
theorem aOp_mapUpdate (t:TypeId) (x y z:Operand):aOp P A ⟨dst,.mapUpdate t x y z,ty,pos,aft,g⟩ s k kp=pureK (aPure P A ⟨dst,.mapUpdate t x y z,ty,pos,aft,g⟩ s.ev (getB s.boxes)) (touchOf A ⟨dst,.mapUpdate t x y z,ty,pos,aft,g⟩ s.ev) k:=rfl
theorem aOp_insert (t:TypeId) (x y z:Operand):aOp P A ⟨dst,.insert t x y z,ty,pos,aft,g⟩ s k kp=pureK (aPure P A ⟨dst,.insert t x y z,ty,pos,aft,g⟩ s.ev (getB s.boxes)) (touchOf A ⟨dst,.insert t x y z,ty,pos,aft,g⟩ s.ev) k:=rfl
theorem aOp_lookup (t:TypeId) (x y:Operand) (b:Bool):aOp P A ⟨dst,.lookup t x y b,ty,pos,aft,g⟩ s k kp=pureK (aPure P A ⟨dst,.lookup t x y b,ty,pos,aft,g⟩ s.ev (getB s.boxes)) (touchOf A ⟨dst,.lookup t x y b,ty,pos,aft,g⟩ s.ev) k:=rfl
theorem aOp_box (t:TypeId) (x:Operand):aOp P A ⟨dst,.box t x,ty,pos,aft,g⟩ s k kp=pureK (aPure P A ⟨dst,.box t x,ty,pos,aft,g⟩ s.ev (getB s.boxes)) (touchOf A ⟨dst,.box t x,ty,pos,aft,g⟩ s.ev) k:=rfl
theorem aOp_build (t:TypeId) (ps:Array (Nat×Operand)):aOp P A ⟨dst,.build t ps,ty,pos,aft,g⟩ s k kp=pureK (aPure P A ⟨dst,.build t ps,ty,pos,aft,g⟩ s.ev (getB s.boxes)) (touchOf A ⟨dst,.build t ps,ty,pos,aft,g⟩ s.ev) k:=rfl
theorem aOp_buildSlice (t:TypeId) (n:Nat) (ps:Array (Nat×Operand)):aOp P A ⟨dst,.buildSlice t n ps,ty,pos,aft,g⟩ s k kp=pureK (aPure P A ⟨dst,.buildSlice t n ps,ty,pos,aft,g⟩ s.ev (getB s.boxes)) (touchOf A ⟨dst,.buildSlice t n ps,ty,pos,aft,g⟩ s.ev) k:=rfl
theorem aOp_load (t:TypeId) (x:Operand):aOp P A ⟨dst,.load t x,ty,pos,aft,g⟩ s k kp=pureK (aPure P A ⟨dst,.load t x,ty,pos,aft,g⟩ s.ev (getB s.boxes)) (touchOf A ⟨dst,.load t x,ty,pos,aft,g⟩ s.ev) k:=rfl
theorem aOp_store (t:TypeId) (x y:Operand):aOp P A ⟨dst,.store t x y,ty,pos,aft,g⟩ s k kp=pureK (aPure P A ⟨dst,.store t x y,ty,pos,aft,g⟩ s.ev (getB s.boxes)) (touchOf A ⟨dst,.store t x y,ty,pos,aft,g⟩ s.ev) k:=rfl
theorem aOp_nilCheck (x:Operand):aOp P A ⟨dst,.nilCheck x,ty,pos,aft,g⟩ s k kp=pureK (aPure P A ⟨dst,.nilCheck x,ty,pos,aft,g⟩ s.ev (getB s.boxes)) (touchOf A ⟨dst,.nilCheck x,ty,pos,aft,g⟩ s.ev) k:=rfl
theorem aOp_binOp (b:BinOp) (t:TypeId) (x y:Operand) (t2:TypeId):aOp P A ⟨dst,.binOp b t x y t2,ty,pos,aft,g⟩ s k kp=pureK (aPure P A ⟨dst,.binOp b t x y t2,ty,pos,aft,g⟩ s.ev (getB s.boxes)) (touchOf A ⟨dst,.binOp b t x y t2,ty,pos,aft,g⟩ s.ev) k:=rfl
theorem aOp_unOp (b:UnOp) (t:TypeId) (x:Operand):aOp P A ⟨dst,.unOp b t x,ty,pos,aft,g⟩ s k kp=pureK (aPure P A ⟨dst,.unOp b t x,ty,pos,aft,g⟩ s.ev (getB s.boxes)) (touchOf A ⟨dst,.unOp b t x,ty,pos,aft,g⟩ s.ev) k:=rfl
theorem aOp_convert (a b:TypeId) (x:Operand):aOp P A ⟨dst,.convert a b x,ty,pos,aft,g⟩ s k kp=pureK (aPure P A ⟨dst,.convert a b x,ty,pos,aft,g⟩ s.ev (getB s.boxes)) (touchOf A ⟨dst,.convert a b x,ty,pos,aft,g⟩ s.ev) k:=rfl
theorem aOp_makeFunc (f:FuncId) (first:Array Operand) (cap:Array Operand):aOp P A ⟨dst,.makeFunc (.func f) first cap,ty,pos,aft,g⟩ s k kp=pureK (aPure P A ⟨dst,.makeFunc (.func f) first cap,ty,pos,aft,g⟩ s.ev (getB s.boxes)) (touchOf A ⟨dst,.makeFunc (.func f) first cap,ty,pos,aft,g⟩ s.ev) k:=rfl
theorem aOp_slice (t:TypeId) (x:Operand) (lo hi mx:Option Operand):aOp P A ⟨dst,.slice t x lo hi mx,ty,pos,aft,g⟩ s k kp=pureK (aPure P A ⟨dst,.slice t x lo hi mx,ty,pos,aft,g⟩ s.ev (getB s.boxes)) (touchOf A ⟨dst,.slice t x lo hi mx,ty,pos,aft,g⟩ s.ev) k:=rfl
theorem aOp_fieldAddr (t:TypeId) (x:Operand) (f:Nat):aOp P A ⟨dst,.fieldAddr t x f,ty,pos,aft,g⟩ s k kp=pureK (aPure P A ⟨dst,.fieldAddr t x f,ty,pos,aft,g⟩ s.ev (getB s.boxes)) (touchOf A ⟨dst,.fieldAddr t x f,ty,pos,aft,g⟩ s.ev) k:=rfl
theorem aOp_field (t:TypeId) (x:Operand) (f:Nat):aOp P A ⟨dst,.field t x f,ty,pos,aft,g⟩ s k kp=pureK (aPure P A ⟨dst,.field t x f,ty,pos,aft,g⟩ s.ev (getB s.boxes)) (touchOf A ⟨dst,.field t x f,ty,pos,aft,g⟩ s.ev) k:=rfl
theorem aOp_indexAddr (t:TypeId) (x y:Operand):aOp P A ⟨dst,.indexAddr t x y,ty,pos,aft,g⟩ s k kp=pureK (aPure P A ⟨dst,.indexAddr t x y,ty,pos,aft,g⟩ s.ev (getB s.boxes)) (touchOf A ⟨dst,.indexAddr t x y,ty,pos,aft,g⟩ s.ev) k:=rfl
theorem aOp_index (t:TypeId) (x y:Operand):aOp P A ⟨dst,.index t x y,ty,pos,aft,g⟩ s k kp=pureK (aPure P A ⟨dst,.index t x y,ty,pos,aft,g⟩ s.ev (getB s.boxes)) (touchOf A ⟨dst,.index t x y,ty,pos,aft,g⟩ s.ev) k:=rfl
theorem aOp_extract (x:Operand) (f:Nat):aOp P A ⟨dst,.extract x f,ty,pos,aft,g⟩ s k kp=pureK (aPure P A ⟨dst,.extract x f,ty,pos,aft,g⟩ s.ev (getB s.boxes)) (touchOf A ⟨dst,.extract x f,ty,pos,aft,g⟩ s.ev) k:=rfl
theorem aOp_len (b:Builtin) (args:Array Operand) (tys:Array TypeId):aOp P A ⟨dst,.call ⟨.builtin b,args,tys⟩,ty,pos,aft,g⟩ s k kp=pureK (aPure P A ⟨dst,.call ⟨.builtin b,args,tys⟩,ty,pos,aft,g⟩ s.ev (getB s.boxes)) (touchOf A ⟨dst,.call ⟨.builtin b,args,tys⟩,ty,pos,aft,g⟩ s.ev) k:=rfl
theorem aOp_call (fo:Operand) (args:Array Operand) (tys:Array TypeId):aOp P A ⟨dst,.call ⟨.value fo,args,tys⟩,ty,pos,aft,g⟩ s k kp=if xflag A dst=true then aCallOpX P dst (prepX (s.ev fo) (args.toList.map s.ev)) k else if oflag A dst=true then (aCallOpX P dst (prepX (s.ev fo) (args.toList.map s.ev)) k∨aCallOp P dst (prep (getB s.boxes) (s.ev fo) (args.toList.map s.ev)) k kp) else if tflag A dst=true then (aCallOpT P dst fo (args.toList.map s.ev) k∨aCallOp P dst (prep (getB s.boxes) (s.ev fo) (args.toList.map s.ev)) k kp) else aCallOp P dst (prep (getB s.boxes) (s.ev fo) (args.toList.map s.ev)) k kp:=rfl
theorem pureK_some (e:Eff) (tch:List Nm):pureK (some e) tch k=k e tch:=rfl
theorem aCallOp_some (d:Nat) (p:Prep):aCallOp P (some d) (some p) k kp=aCall P p.f p.xs p.refs (callK p d k) (callPK p d kp):=rfl
theorem callPK_eq (p:Prep) (d:Nat) (q:PV) (refs':List Box):callPK p d kp q refs'=kp q (callEff p.names (boxToks p.refs) d q refs') p.names:=rfl
theorem panK_false (q:PV) (e:Eff) (tch:List Nm):panK P A ops false i rest log KP s q e tch=(disjN e.2.2 s.used=true∧KP q (s.pan e)):=by simp[panK]
theorem panK_true (q:PV) (e:Eff) (tch:List Nm):panK P A ops true i rest log KP s q e tch=(disjN e.2.2 s.used=true∧(((s.used.isEmpty=true∧panOk ops i log=true)∧okLog ops i (tch++e.2.1.map (·.1)) (e.2.1.map (·.1)) log=true)∧harm P A ops i rest (i+1) s)∧KP q (s.pan e)):=by simp[panK]
theorem harmK_some (next:SV→Prop) (tch:List Nm) (sv:SV):harmK next tch (some (sv,[],[]))=(tch=[]∧next sv):=rfl
theorem harm_nil (j:Nat):harm P A ops i [] j s=True:=rfl
theorem panQ_eq (q:PV):panQ Q q s=Q (.pan q) s:=rfl
theorem aOpP_eq (o:Oper) (kq:AS→PV→Eff→List Nm→Prop):aOpP P A o kq s k=aOp P A o s k (kq s):=rfl
theorem panV_ifc (t:TypeId) (p:PV):panV (.one (.pv (.ifc t p))) kp=kp (.ifc t p) (.one .any,[],[]) []:=rfl
theorem aOp_panic (x:Operand):aOp P A ⟨dst,.panic x,ty,pos,aft,g⟩ s k kp=panV (s.ev x) kp:=rfl
theorem aOp_makeInterface (t:TypeId) (x:Operand):aOp P A ⟨dst,.makeInterface t x,ty,pos,aft,g⟩ s k kp=pureK (aPure P A ⟨dst,.makeInterface t x,ty,pos,aft,g⟩ s.ev (getB s.boxes)) (touchOf A ⟨dst,.makeInterface t x,ty,pos,aft,g⟩ s.ev) k:=rfl
theorem callK_eq (p:Prep) (d:Nat) (r:PV) (refs':List Box):callK p d k r refs'=k (callEff p.names (boxToks p.refs) d r refs') p.names:=rfl
variable {next:AS→List LogE→Prop}{tch:List Nm}
theorem opK_false (e:Eff):opK ops false i dst s log next e tch=(disjN e.2.2 s.used=true∧next (s.app dst e) log):=by simp[opK,addLog]
theorem opK_true (e:Eff):opK ops true i dst s log next e tch=(disjN e.2.2 s.used=true∧okLog ops i (tch++e.2.1.map (·.1)) (e.2.1.map (·.1)) log=true∧next (s.app dst e) (addLog true i (tch++e.2.1.map (·.1)) (e.2.1.map (·.1)) log)):=by simp[opK]
theorem ev_tmp (t:Nat):s.ev (.tmp t)=getT s.tmps t:=rfl
theorem ev_const (c:Value):s.ev (.const c)=constSV c:=rfl
theorem ev_func (f:FuncId):s.ev (.func f)=.one (.pv (.fn f [])):=rfl
theorem getB_nil (n:Nm):getB [] n=none:=rfl
theorem getB_cons (n m:Nm) (b:Box) (r:List (Nm×Box)):getB ((n,b)::r) m=if n=m then some b else getB r m:=rfl
theorem disjN_nil (l:List Nat):disjN [] l=true:=rfl
end
attribute [go_sem] resK_ret resK_pan finR_ret finR_pan seqK_pan blockK_pan finP_normal finP_ret finP_pan finK_pan callPK_eq panK_false panK_true panQ_eq aOpP_eq panV_ifc aOp_panic aOp_makeInterface AS.pan normB panOk isLoc
theorem nilPV_ep (y:PV) (off:Nat):nilPV (.ep y off)=Eff.pv (.ep y off):=rfl
theorem nilPV_fx (ps:List PV) (e:PV):nilPV (.fx ps e)=Eff.pv (.fx ps e):=rfl
theorem nilPV_fxc (ps:List PV) (e:PV):nilPV (.fxc ps e)=Eff.pv (.fxc ps e):=rfl
theorem nilPV_fn (f:FuncId) (ps:List PV):nilPV (.fn f ps)=Eff.pv (.fn f ps):=rfl
theorem unfx_ep (y:PV) (off:Nat):(PV.ep y off).unfx=.ep y off:=rfl
theorem unfx_fx (ps:List PV) (e:PV):(PV.fx ps e).unfx=.ep (.agg (ps++[.fxc ps e])) 0:=rfl
theorem unfx_fxc (ps:List PV) (e:PV):(PV.fxc ps e).unfx=.ep (.agg [.fx ps e,e]) 0:=rfl
theorem unfx_nilp:PV.nilp.unfx=.nilp:=rfl
theorem unfxSV_pv (p:PV):unfxSV (.one (.pv p))=.one (.pv p.unfx):=rfl
theorem unfxSV_ptr (n:Nm) (off:Nat):unfxSV (.one (.ptr n off))=.one (.ptr n off):=rfl
theorem lookI_t (r:Option Int):lookI true r=.tuple [.int .i64 (r.getD 0),.bool r.isSome]:=rfl
theorem lookI_f (r:Option Int):lookI false r=.int .i64 (r.getD 0):=rfl
attribute [go_sem] harm_nil harmK_some nilPV_ep nilPV_fx nilPV_fxc nilPV_fn unfxSV_pv unfxSV_ptr unfx_ep unfx_fx unfx_fxc unfx_nilp nilCmp isNilC aPure newMap lookI_t lookI_f touchOf laysBox AS.pre AS.freezeL AS.cutL layD frzD locD AS.freeze1 AS.cut1 getT AS.app setD setT setBs setB SV.hasSz constSV zeroSC SV.pv? SC.pv? capsPV? pvs? binPV arithOp cmpOp strOp eqPV unPV convPV convB bytesPV? nilOf Eff.pv loadSV loadPV storeSV SV.cells? SV.cellsAt? isCst aBuiltin aLen aAppend addLog okLog AS.setTmp bv mkPrep namesOf nodupB sendArgs sendArg sendSV sendSCs sendSC sendCaps plainSV plainSC sendBoxes boxToks svToks scToks idx reach addNew boxNames svNames scNames capNm AS.drop dropT dropB dropSV dropSC dropCaps fillSC pvsOf boundsOf intOf? mkFn capsOf capOf disj disjN skipEff List.filterMap_cons List.filterMap_nil List.flatMap_cons List.flatMap_nil List.append_nil List.nil_append List.cons_append List.map_cons List.map_nil List.all_cons List.all_nil List.contains List.elem Bool.false_eq_true Bool.true_eq_false Bool.not_false Bool.not_true Bool.true_or Bool.false_or Bool.or_true Bool.or_false Bool.true_and Bool.false_and Bool.and_true Bool.and_false and_self true_and and_true or_false false_or or_true true_or and_false false_and Nm.loc.injEq Nm.ref.injEq Option.some.injEq Prod.mk.injEq List.mem_cons List.not_mem_nil List.length_cons List.length_nil beq_self_eq_true Nat.zero_add Nat.add_zero Option.map_some Option.map_none Option.bind_some Option.bind_none Option.toList List.getElem?_cons_zero List.getElem?_cons_succ List.getElem?_nil List.take_succ_cons List.take_zero List.drop_succ_cons List.drop_zero not_true_eq_false not_false_eq_true AS.decided decK_eq start numbered refBoxes condK_true condK_false AS.live findL AS.norm normT normB normSV normSC pickT allNames deadLocs AS.tidy AS.head keyOf guardK_tt guardK_ff guardK_tf guardK_ft AWp_skip AWp_label AWp_region AWp_seq AWp_cond condV_bool AWp_block AWp_loop AWp_scope AWp_exit AWp_ret regK_eq seqK_normal seqK_exit seqK_ret blockK_normal blockK_exit blockK_ret finK_normal finK_ret finS resL resOf resPV boxesAre aOps_nil aOps_cons aOps_guard guardS_some guardV_bool aOp_makeMap aOp_mapUpdate aOp_insert aOp_lookup SV.isMp SC.isMp aOp_move aOp_assign aOp_pick aOp_alloc aOp_box aOp_build aOp_buildSlice aOp_load aOp_store aOp_nilCheck aOp_binOp aOp_unOp aOp_convert aOp_makeFunc aOp_slice aOp_fieldAddr aOp_field aOp_indexAddr aOp_index aOp_extract aOp_len aOp_call pureK_some aCallOp_some callK_eq callEff recvSV recvSC recvCaps opK_false opK_true ev_tmp ev_const ev_func getB_nil getB_cons disjN_nil
theorem hs_bool (b:Bool):PV.hasSz .one (.bool b)=true:=rfl
theorem hs_int (k:IntKind) (n:Int):PV.hasSz .one (.int k n)=true:=rfl
theorem hs_str (s:ByteArray):PV.hasSz .one (.str s)=true:=rfl
theorem hs_nilp:PV.hasSz .one .nilp=true:=rfl
theorem hs_fx (ps:List PV) (e:PV):PV.hasSz .one (.fx ps e)=true:=rfl
theorem hs_fxc (ps:List PV) (e:PV):PV.hasSz .one (.fxc ps e)=true:=rfl
theorem hs_ifc (t:TypeId) (p:PV):PV.hasSz .one (.ifc t p)=true:=rfl
theorem hs_ep (x:PV) (n:Nat):PV.hasSz .one (.ep x n)=true:=rfl
theorem hs_slice (es:List PV):PV.hasSz .one (.slice es)=true:=rfl
theorem hs_fn (f:FuncId) (es:List PV):PV.hasSz .one (.fn f es)=true:=rfl
theorem hs_nilfn:PV.hasSz .one .nilfn=true:=rfl
theorem hs_nili:PV.hasSz .one .nili=true:=rfl
theorem hs_err:PV.hasSz .one .err=true:=rfl
theorem hs_nilsl:PV.hasSz .one .nilsl=true:=rfl
theorem hs_agg (n:Nat) (cs:List PV):PV.hasSz (.agg n) (.agg cs)=(cs.length==n):=rfl
theorem hs_one_agg (cs:List PV):PV.hasSz .one (.agg cs)=false:=rfl
theorem hs_one_tuple (cs:List PV):PV.hasSz .one (.tuple cs)=false:=rfl
theorem hs_agg_int (n:Nat) (k:IntKind) (x:Int):PV.hasSz (.agg n) (.int k x)=false:=rfl
theorem hs_agg_slice (n:Nat) (es:List PV):PV.hasSz (.agg n) (.slice es)=false:=rfl
attribute [go_sem] hs_fx hs_fxc hs_ifc hs_one_agg hs_one_tuple hs_agg_int hs_agg_slice hs_bool hs_int hs_str hs_nilp hs_ep hs_slice hs_fn hs_nilfn hs_nili hs_err hs_nilsl hs_agg Nat.reduceBEq
attribute [go_sem] List.isEmpty_nil List.isEmpty_cons List.zip_cons_cons List.zip_nil_left List.zip_nil_right List.head?_nil List.head?_cons List.take_nil List.drop_nil decide_true decide_false ite_true ite_false Bool.not_eq_true List.range List.range.loop List.length_singleton Nat.succ_eq_add_one
/-! A rule for loops over lists -/
theorem aLoop_list {α β:Type}{body:(AX→AS→Prop)→AS→Prop}{hd:AS→AS}{Q:AX→AS→Prop}(S:List α→β→AS) (Inv:List α→β→Prop)
  (done:∀b,Inv [] b→∀K:AS→Prop,body (seqK K Q) (S [] b))
  (step:∀x rest b,Inv (x::rest) b→∀K:AS→Prop,(∀b' s',hd s'=S rest b'→Inv rest b'→K s')→body (seqK K Q) (S (x::rest) b)) :
  ∀(l:List α) (b:β) (s:AS),hd s=S l b→Inv l b→∃n,aLoop body hd Q n s:=by
 intro l b s h1 h2
 refine ⟨l.length+1,?_⟩
 induction l generalizing b s with
 |nil=>
  show body (seqK (aLoop body hd Q 0) Q) (hd s)
  rw[h1];exact done b h2 _
 |cons x r ih=>
  show body (seqK (aLoop body hd Q (r.length+1)) Q) (hd s)
  rw[h1];exact step x r b h2 _ fun b' s' h3 h4=>ih b' s' h3 h4
theorem lt_false {a b:Int}(h:b≤a):decide (a<b)=false:=by simp;omega
abbrev ii (n:Int):SV:=.one (.pv (.int .i64 n))
abbrev bb (b:Bool):SV:=.one (.pv (.bool b))
abbrev pp (p:PV):SV:=.one (.pv p)
theorem names_pure:∀(xs:List PV),(xs.map pp).flatMap svNames=[]
 | []=>rfl
 |x::xs=>by simp[svNames,scNames,names_pure xs]
theorem sendArgs_pure:∀(xs:List PV),sendArgs [] (xs.map pp)=some (xs.map pp)
 | []=>rfl
 |x::xs=>by simp[sendArgs,sendArg,SV.pv?,SC.pv?,sendArgs_pure xs]
theorem prep_pure (bx:Nm→Option Box) (f:FuncId) (xs ps:List PV):prep bx (pp (.fn f ps)) (xs.map pp)=some ⟨f,[],(xs++ps).map pp,[]⟩:=by
 have h:xs.map pp++ps.map pp=(xs++ps).map pp:=by simp
 simp only[prep,calleeOf]
 simp only[h,mkPrep,namesOf,names_pure,sendArgs_pure,sendBoxes,nodupB,boxToks]
 simp
theorem prep_fn1 (bx:Nm→Option Box) (f:FuncId) (ps:List PV) (x:PV):prep bx (.one (.pv (.fn f ps))) [.one (.pv x)]=some ⟨f,[],pp x::ps.map pp,[]⟩:=prep_pure bx f [x] ps
theorem prep_fn2 (bx:Nm→Option Box) (f:FuncId) (ps:List PV) (x y:PV):prep bx (.one (.pv (.fn f ps))) [.one (.pv x),.one (.pv y)]=some ⟨f,[],pp x::pp y::ps.map pp,[]⟩:=prep_pure bx f [x,y] ps
theorem prep_fn0 (bx:Nm→Option Box) (f:FuncId) (ps:List PV):prep bx (.one (.pv (.fn f ps))) []=some ⟨f,[],ps.map pp,[]⟩:=prep_pure bx f [] ps
theorem prep_fn3 (bx:Nm→Option Box) (f:FuncId) (ps:List PV) (x y z:PV):prep bx (.one (.pv (.fn f ps))) [.one (.pv x),.one (.pv y),.one (.pv z)]=some ⟨f,[],pp x::pp y::pp z::ps.map pp,[]⟩:=prep_pure bx f [x,y,z] ps
theorem prep_fn4 (bx:Nm→Option Box) (f:FuncId) (ps:List PV) (x y z u:PV):prep bx (.one (.pv (.fn f ps))) [.one (.pv x),.one (.pv y),.one (.pv z),.one (.pv u)]=some ⟨f,[],pp x::pp y::pp z::pp u::ps.map pp,[]⟩:=prep_pure bx f [x,y,z,u] ps
theorem prep_clo (bx:Nm→Option Box) (f:FuncId) (caps:List Cap) (args:List SV):prep bx (.one (.fn f caps)) args=mkPrep bx f (args++caps.map capSV) (namesOf bx (args++caps.map capSV)):=rfl
theorem prep_pv (bx:Nm→Option Box) (f:FuncId) (ps:List PV) (args:List SV):prep bx (.one (.pv (.fn f ps))) args=mkPrep bx f (args++ps.map pp) (namesOf bx (args++ps.map pp)):=rfl
attribute [go_sem] prep_clo capSV
attribute [go_sem low] prep_pv
attribute [go_sem high] prep_fn0 prep_fn1 prep_fn2 prep_fn3 prep_fn4
theorem nm_loc (d e:Nat):(Nm.loc d==Nm.loc e)=(d==e):=by
 rw[Bool.eq_iff_iff];simp
theorem nm_ref (d e:Nat):(Nm.ref d==Nm.ref e)=(d==e):=by
 rw[Bool.eq_iff_iff];simp
theorem nm_lr (d e:Nat):(Nm.loc d==Nm.ref e)=false:=by
 rw[Bool.eq_false_iff];simp
theorem nm_rl (d e:Nat):(Nm.ref d==Nm.loc e)=false:=by
 rw[Bool.eq_false_iff];simp
attribute [go_sem] nm_loc nm_ref nm_lr nm_rl
attribute [go_sem] guardK_tt guardK_ff guardK_tf guardK_ft condK_true condK_false
def slotL:List Oper→Nat→Option Nat
 | [],_=>none
 |o::_,0=>o.dst
 |_::r,j+1=>slotL r j
theorem slotL_eq:∀(l:List Oper) (j:Nat),slotL l j=(l[j]?).bind (·.dst)
 | [],j=>by simp[slotL]
 |o::r,0=>by simp[slotL]
 |o::r,j+1=>by simp[slotL,slotL_eq r j]
theorem slotOf_arr (l:List Oper) (j:Nat):slotOf l.toArray j=slotL l j:=by rw[slotL_eq,slotOf];simp
attribute [go_sem] slotOf_arr slotL
theorem guardV_undef (t:Nat) (want:Bool) (step:AS→(Eff→List Nm→Prop)→Prop) (op:AS→List LogE→(AS→List LogE→Prop)→Eff→List Nm→Prop) (next:AS→List LogE→Prop) (s:AS) (dst:Option Nat) (log:List LogE) :
  guardV (.one (.pv (.tuple []))) want step op next s t dst log=next (s.app dst skipEff) log:=rfl
attribute [go_sem] guardV_undef
/-! Rows, and calls that hand back a slice of the caller's own -/
theorem prepX_pv (f:FuncId) (ps:List PV) (args:List SV):prepX (.one (.pv (.fn f ps))) args=(sendArgs [] (args.map nilX++ps.map pp)).map fun xs=>(f,xs):=rfl
theorem aCallOpX_some {P:Program}{k:Eff→List Nm→Prop}(d:Nat) (p:FuncId×List SV):aCallOpX P (some d) (some p) k=aCallX P p.1 p.2 (callXK d k):=rfl
theorem callXK_eq (d:Nat) (k:Eff→List Nm→Prop) (kz:Sz) (es:List PV):callXK d k kz es=k (callEffX d kz es) []:=rfl
theorem finX_normal (k:Sz) (es:List PV) (rv:List ResultVar) (s:AS):finX k es rv .normal s=exOf s k es rv:=rfl
theorem finX_ret (k:Sz) (es:List PV) (rv:List ResultVar) (s:AS):finX k es rv .ret s=exOf s k es rv:=rfl
theorem exOf_intro {s:AS}{k:Sz}{es:List PV}{t tok:Nat}(h:getT s.tmps t=.one (.ex tok k es)):exOf s k es [.tmp t]:=⟨tok,h⟩
theorem aCallOpT_some {P:Program}{k:Eff→List Nm→Prop}(d f t:Nat) (kz:Sz) (es:List PV):aCallOpT P (some d) (.func f) [.one (.ex t kz es)] k=aCallT P f kz es (callTK t k):=rfl
theorem callTK_eq (t:Nat) (k:Eff→List Nm→Prop) (r:PV):callTK t k r=k (.one (.pv r),[],[t]) []:=rfl
attribute [go_sem] aCallOpT_some callTK_eq tflag oflag
attribute [go_sem] prepX_pv aCallOpX_some callXK_eq callEffX finX_normal finX_ret xflag rowOf? rwOf? rowIx_mul AS.swapL AS.swap1 freeN AS.swap swT swB swSV swSCs swSC swCaps swN nilOwnL AS.toks AS.nilOwn1 AS.nilOwnL unl knSC knSV knT knB AS.knot1 AS.knot2 knotCells AS.knotL AS.rows AS.exRow AS.exRow1 AS.ex? exT? exB? exSV? exSCs? exSC? flipT flipSV flipSC flipB AS.frzRow AS.frzRowsL AS.out AS.unrowsL AS.unrow unT unB unSV unSC rowFlag aAppendRow nilX frzNs
end Go.Abs
namespace Go.Abs
open Go
theorem aFlipOr_load {P:Program}{A:Ann}{id:Nat}{ops:Array Oper}{Q:AX→AS→Prop}{s:AS}{o1 o2:Oper}{rest:List Oper}{x y d:Nat}{T:TypeId}{n:Nm}{f:FuncId}{tys:Array TypeId}{t:Nat}{k:Sz}{es:List PV}{c':Nat→SC}{r:SC}(h0:ops.toList=o1::o2::rest)
  (h1:o1.dst=some y∧o1.op=.load T (.tmp x)∧o1.guard=none) (h2:o2.dst=some d∧o2.op=.call {callee:=.value (.func f),args:=#[.tmp y],argTypes:=tys}∧o2.guard=none) (hT:szOf P T=some .one) (h3:getT s.tmps x=.one (.ptr n 0)) (h4:getB s.boxes n=some ⟨.one,.one (.ex t k es)⟩)
  (hP:Turn P f k es c' r) (hK:aOps P A ops false (panQ Q) (regK A id Q) rest 2 ((s.flip t (c' t) y d r).pre A rest) []):aFlipOr P A id ops false Q s:=
 .inl ⟨o1,o2,rest,y,d,f,[],tys,t,k,es,c',r,h0,⟨h1.1,.inr ⟨T,x,n,h1.2.1,hT,h3,h4⟩,h1.2.2⟩,h2,rfl,hP,hK⟩
theorem aFlipOr_ops {P:Program}{A:Ann}{id:Nat}{ops:Array Oper}{draw:Bool}{Q:AX→AS→Prop}{s:AS}(h:aOps P A ops draw (panQ Q) (regK A id Q) ops.toList 0 ((s.rows A id).pre A ops.toList) []):aFlipOr P A id ops draw Q s:=.inr h
/-! Contracts that say less -/
theorem Spec.weaken {P:Program}{f:FuncId}{args:List SV}{refs refs':List Box}{r r':PV}(h:Spec P f args refs r refs') (hw:∀I v,Rep I r v→Rep I r' v):Spec P f args refs r' refs':=by
 refine ⟨h.1,h.2.1,fun G w vs h1 h2 h3 h4 h5=>(h.2.2 G w vs h1 h2 h3 h4 h5).mono ?_⟩
 rintro e w' ⟨v,G',rfl,g1,g2,g3,g4⟩
 exact ⟨v,G',rfl,hw _ _ g1,g2,g3,g4⟩
end Go.Abs
namespace Go.Abs
open Go
theorem RepSC.notok {G G1:Gh}{used:List Nat}(hI:G1.I=G.I) (hb:G1.blk=G.blk) (hc:G1.cap=G.cap) {c:SC}{v:Value}(ht:scToks c=[]) (h:RepSC G used c v):RepSC G1 used c v:=by
 have caps:∀{cs:List Cap}{vs:List Value},RepCaps G cs vs→RepCaps G1 cs vs:=fun h=>RepCaps.ext (by rw[hI];exact Imm.le_refl _) (by rw[hb];exact fun _ _ h=>h) h
 cases c with
 |pv p=>simp only[RepSC] at h ⊢;rw[hI];exact h
 |ptr n off=>simp only[RepSC] at h ⊢;rw[hb];exact h
 |own t k es=>simp[scToks] at ht
 |ex t k es=>simp[scToks] at ht
 |nilS=>exact h
 |fn f cs=>simp only[RepSC] at h ⊢;obtain ⟨cv,h1,h2⟩:=h;exact ⟨cv,h1,caps h2⟩
 |any=>trivial
 |mp n=>simp only[RepSC] at h ⊢;rw[hb];exact h
 |mpc ks=>exact h.elim
 |rw n m=>simp only[RepSC] at h ⊢;rw[hb,hc];exact h
 |rwc k es=>exact h.elim
 |sl n=>simp only[RepSC] at h ⊢;rw[hb];exact h
theorem RepSCs.notok {G G1:Gh}{used:List Nat}(hI:G1.I=G.I) (hb:G1.blk=G.blk) (hc:G1.cap=G.cap):∀{cs:List SC}{vs:List Value},cs.flatMap scToks=[]→RepSCs G used cs vs→RepSCs G1 used cs vs
 | [],vs,_,h=>by simpa [RepSCs] using h
 |c::cs,vs,ht,h=>by
  simp only[List.flatMap_cons,List.append_eq_nil_iff] at ht
  simp only[RepSCs] at h ⊢
  obtain ⟨v,rest,rfl,h2,h3⟩:=h
  exact ⟨v,rest,rfl,h2.notok hI hb hc ht.1,RepSCs.notok hI hb hc ht.2 h3⟩
theorem RepSV.notok {G G1:Gh}{used:List Nat}(hI:G1.I=G.I) (hb:G1.blk=G.blk) (hc:G1.cap=G.cap) {x:SV}{v:Value}(ht:svToks x=[]) (h:RepSV G used x v):RepSV G1 used x v:=by
 cases x with
 |one c=>exact RepSC.notok hI hb hc (c:=c) ht h
 |agg cs=>
  obtain ⟨vs,rfl,h2,h3⟩:=h
  exact ⟨vs,rfl,RepSCs.notok hI hb hc ht h2,h3⟩
theorem RepSVs.notok {G G1:Gh}{used:List Nat}(hI:G1.I=G.I) (hb:G1.blk=G.blk) (hc:G1.cap=G.cap):∀{xs:List SV}{vs:List Value},xs.flatMap svToks=[]→RepSVs G used xs vs→RepSVs G1 used xs vs
 | [],vs,_,h=>by simpa [RepSVs] using h
 |c::cs,vs,ht,h=>by
  simp only[List.flatMap_cons,List.append_eq_nil_iff] at ht
  simp only[RepSVs] at h ⊢
  obtain ⟨v,rest,rfl,h2,h3⟩:=h
  exact ⟨v,rest,rfl,h2.notok hI hb hc ht.1,RepSVs.notok hI hb hc ht.2 h3⟩
def Gh.solo (G:Gh) (t1 t2:Nat):Gh:=⟨G.I,G.blk,fun t=>if t=t1 then G.tok t2 else none,G.cap⟩
theorem solo_src {G:Gh}{t1 t2 t:Nat}{tk:Tk}(h:(G.solo t1 t2).tok t=some tk):t=t1∧G.tok t2=some tk:=by
 simp only[Gh.solo] at h
 split at h
 ·exact ⟨by assumption,h⟩
 ·cases h
theorem solo_inv {G:Gh}{w:World}{t1 t2:Nat}(hW:WInv G w):WInv (G.solo t1 t2) w:=by
 refine ⟨hW.imm,hW.inj,hW.lt,hW.blkImm,fun t tk h=>?_,fun t t' tk tk' g h1 h2 _ _=>?_,fun t tk g n h1 h2 h3=>?_,fun g hg=>⟨(hW.glob g hg).1,(hW.glob g hg).2.1,fun t tk h=>?_⟩⟩
 ·exact (hW.tokOk t2 tk (solo_src h).2).keep fun _ _=>⟨rfl,fun _ _ h=>h⟩
 ·rw[(solo_src h1).1,(solo_src h2).1]
 ·exact hW.tokBlk t2 tk g n (solo_src h1).2 h2 h3
 ·exact (hW.glob g hg).2.2 t2 tk (solo_src h).2
theorem solo_tokBlk {G:Gh}{t1 t2 g:Nat}(h:TokBlk (G.solo t1 t2) g (fun _=>True)):TokBlk G g (fun _=>True):=by
 obtain ⟨t,tk,_,h1,h2⟩:=h
 exact ⟨t2,tk,trivial,(solo_src h1).2,h2⟩
def exB (t:Nat) (k:Sz) (es:List PV):Box:=⟨.one,.one (.ex t k es)⟩
theorem exB_solo {G:Gh}{w:World}{n:Nm}{t1 t2:Nat}{k:Sz}{es:List PV}(h:BoxAt G [] w n (exB t2 k es)):BoxAt (G.solo t1 t2) [] w n (exB t1 k es):=by
 rcases h with ⟨b,vs,T,u,h1,h2,h3,h4,h5⟩|⟨b,ks,es',clock,_,_,h3,_⟩|⟨b,k',es',cur,T,vs,_,_,h3,_⟩
 ·refine .inl ⟨b,vs,T,u,h1,h2,h3,h4,?_⟩
  simp only[exB,RepSV,RepSC] at h5 ⊢
  refine ⟨h5.1,h5.2.1,fun _=>?_⟩
  obtain ⟨tk,h6,h7⟩:=h5.2.2 (by simp)
  exact ⟨tk,by simp[Gh.solo,h6],h7⟩
 ·cases h3
 ·cases h3
theorem Spec.in_ex {P:Program}{f:FuncId}{args:List SV}{k:Sz}{es:List PV}{r:PV}{refs':List Box}{t1:Nat}(t2:Nat) (h1:t1 % 2=0) (ha:args.flatMap svToks=[]) (h:Spec P f args [exB t1 k es] r refs'):Spec P f args [exB t2 k es] r refs':=by
 refine ⟨h.1,h.2.1,fun G w vs hW hev hbl hbx hr=>?_⟩
 have hb0:=hbx 0 _ rfl
 refine (h.2.2 (G.solo t1 t2) w vs (solo_inv hW) (fun t ht=>?_) hbl (fun j bx hj=>?_) (RepSVs.notok (G:=G) (G1:=G.solo t1 t2) rfl rfl rfl ha hr)).mono ?_
 ·cases hk:(G.solo t1 t2).tok t with
  |none=>exact absurd hk ht
  |some tk=>rw[(solo_src hk).1];exact h1
 ·cases j with
  |zero=>simp at hj;subst hj;exact exB_solo hb0
  |succ j=>simp at hj
 ·rintro e w' ⟨v,G',rfl,g1,g2,g3,g4⟩
  refine ⟨v,G',rfl,g1,g2,⟨g3.I,fun b o v hv=>(g3.INew b o v hv).imp id (Or.imp id solo_tokBlk),g3.blk,g3.mono,fun n b hn=>(g3.blkNew n b hn).imp id (Or.imp id solo_tokBlk),fun t ht=>absurd trivial ht,fun t tk g h3 h4=>?_,fun b hb h3 h4=>g3.heap b hb h3 fun h5=>h4 (solo_tokBlk h5),g3.size,g3.os,g3.tape,g3.output,g3.cap⟩,g4⟩
  rcases g3.tokNew t tk g h3 h4 with h5|h5|h5
  ·exact .inr (.inr ⟨t2,tk,trivial,(solo_src h5).2,h4⟩)
  ·exact .inr (.inl h5)
  ·exact .inr (.inr (solo_tokBlk h5))
theorem Spec.out_ex {P:Program}{f:FuncId}{args:List SV}{k:Sz}{es:List PV}{r:PV}{refs:List Box}{t1:Nat}(t2:Nat) (h:Spec P f args refs r [exB t1 k es]):Spec P f args refs r [exB t2 k es]:=by
 refine ⟨h.1,h.2.1,fun G w vs hW hev hbl hbx hr=>(h.2.2 G w vs hW hev hbl hbx hr).mono ?_⟩
 rintro e w' ⟨v,G',rfl,g1,g2,g3,g4⟩
 refine ⟨v,G'.solo t2 t1,rfl,g1,solo_inv g2,⟨g3.I,g3.INew,g3.blk,g3.mono,g3.blkNew,fun t ht=>absurd trivial ht,fun t tk g h3 h4=>?_,g3.heap,g3.size,g3.os,g3.tape,g3.output,g3.cap⟩,fun j bx hj=>?_⟩
 ·rcases g3.tokNew t1 tk g (solo_src h3).2 h4 with h5|h5|h5
  ·exact .inr (.inr ⟨t1,tk,trivial,h5,h4⟩)
  ·exact .inr (.inl h5)
  ·exact .inr (.inr h5)
 ·cases j with
  |zero=>simp at hj;subst hj;exact exB_solo (g4 0 _ rfl)
  |succ j=>simp at hj
attribute [go_sem] reduceCtorEq Nat.reduceEqDiff Nat.reduceAdd Nat.reduceMul Nat.reduceSub Nat.reduceLeDiff Int.reduceToNat Int.reduceLE Int.reduceLT
attribute [go_sem ↓] reduceIte
end Go.Abs
namespace Go.Abs
open Go
structure RowTo (w w':World) (g:Nat) (cur':Array Value) (T:TypeId):Prop where
 row:w'.heap[g]? = some (.cells cur' T (0,0))
 old:∀b,b<w.heap.size→b≠g→w'.heap[b]? = w.heap[b]?
 size:w.heap.size≤w'.heap.size
 os:w'.os=w.os
 tape:w'.tape=w.tape
 output:w'.output=w.output
theorem winv_lt {G:Gh}{w:World}(hW:WInv G w) {b o:Nat}{v:Value}(h:G.I b o=some v):b<w.heap.size:=by
 have h1:=hW.imm b o v h
 rcases Nat.lt_or_ge b w.heap.size with h2|h2
 ·exact h2
 ·simp[World.cell?,Array.getElem?_eq_none h2] at h1
theorem turn_ex {P:Program}{f:FuncId}{k:Sz}{es es':List PV}(hb:bodied P f=true) (hlen:es'.length=es.length) (hes:∀e∈es',e.hasSz k=true)
  (h:∀(I:Imm) (w:World) (g cap:Nat) (cur:Array Value) (T:TypeId) (vs:List Value),RepL I es vs→(∀x∈vs,k.okV x=true)→es.length≤cap→cap≤maxLen→w.heap[g]? = some (.cells cur T (0,0))→cur.size=cap*k.size →
   (∀(j:Nat) (v:Value),(flatCells vs)[j]? = some v→cur[j]? = some v) →
   Calls P f #[.slice (some ⟨g,0,none⟩) es.length cap] w fun e w'=>∃r vs' cur',e=.returned r∧RowTo w w' g cur' T∧cur'.size=cur.size∧RepL I es' vs'∧(∀x∈vs',k.okV x=true) ∧
    ∀(j:Nat) (v:Value),(flatCells vs')[j]? = some v→cur'[j]? = some v):Turn P f k es (fun t=>.ex t k es') .any:=by
 refine ⟨hb,fun G w v t tk hW ht hex=>?_⟩
 obtain ⟨h1,h2,g,cap,vs,h3,rfl,h5,h6,h7⟩:=hex
 obtain ⟨a,len,cap',g1,g2,g3,g4⟩:=hW.tokOk t tk ht
 rw[h1] at g1
 cases g1
 rw[h3] at g4
 simp only at g4
 obtain ⟨cur,T,_,hgh,hcs,hgi,hx⟩:=g4
 obtain ⟨hno,hcur⟩:=hx _ h7
 rw[h2] at hcs
 have hglt:g<w.heap.size:=(Array.getElem?_eq_some_iff.1 hgh).1
 refine (h G.I w g cap cur T vs h5 h6 g2 g3 hgh hcs hcur).mono ?_
 rintro e w' ⟨r,vs',cur',rfl,hR,hcs',k1,k2,k3⟩
 have htT:TokBlk G g (·=t):=⟨t,tk,rfl,ht,h3⟩
 let tk':Tk:=⟨tk.hdr,tk.k,tk.g,some (flatCells vs')⟩
 let G':Gh:=⟨G.I,G.blk,fun t'=>if t'=t then some tk' else G.tok t',G.cap⟩
 have htk:∀t' tk1,G'.tok t'=some tk1→(t'=t∧tk1=tk')∨(t'≠t∧G.tok t'=some tk1):=by
  intro t' tk1 h8
  have h9:(if t'=t then some tk' else G.tok t')=some tk1:=h8
  split at h9
  ·cases h9;exact .inl ⟨by assumption,rfl⟩
  ·exact .inr ⟨by assumption,h9⟩
 have htk2:∀t' tk1,G'.tok t'=some tk1→∃tk0,G.tok t'=some tk0∧tk0.g=tk1.g:=by
  intro t' tk1 h8
  rcases htk t' tk1 h8 with ⟨rfl,rfl⟩|⟨_,h9⟩
  ·exact ⟨tk,ht,rfl⟩
  ·exact ⟨tk1,h9,rfl⟩
 refine ⟨r,G',rfl,⟨fun b o v hv=>?_,hW.inj,fun n b hn=>Nat.lt_of_lt_of_le (hW.lt n b hn) hR.size,hW.blkImm,fun t' tk1 h8=>?_,fun t1 t2 tk1 tk2 g' h8 h9 h10 h11=>?_,fun t1 tk1 g' n h8 h9 hn=>?_,fun g1 hg1=>?_⟩,
  ⟨Imm.le_refl _,fun b o v hv=>.inl hv,fun _ _=>rfl,fun _ _ h=>h,fun _ _ h=>.inl h,fun t' hn tk1 h8=>?_,fun t' tk1 g' h8 h9=>?_,fun b hb _ hnt=>hR.old b hb (fun e=>hnt (by rw[e];exact htT)),hR.size,hR.os,hR.tape,hR.output,fun _ _=>rfl⟩,?_,trivial,fun t' h8=>?_,rfl⟩
 ·have hbn:b≠g:=fun e=>by have hv':G.I b o=some v:=hv;rw[e,hno o] at hv';cases hv'
  rw[World.cell?_of_block (w:=w) (hR.old b (winv_lt hW hv) hbn)]
  exact hW.imm b o v hv
 ·rcases htk t' tk1 h8 with ⟨rfl,rfl⟩|⟨h9,h10⟩
  ·refine ⟨_,_,_,h1,g2,g3,?_⟩
   show match tk.g with|none=>_|some g=>_
   rw[h3]
   refine ⟨cur',T,rfl,hR.row,by rw[hcs',hcs];show _=cap*tk.k.size;rw[h2],hgi,fun cs hcs0=>?_⟩
   have:cs=flatCells vs':=by have:some (flatCells vs')=some cs:=hcs0;cases this;rfl
   subst this
   exact ⟨hno,k3⟩
  ·refine (hW.tokOk t' tk1 h10).keep fun g' hg'=>?_
   have hne:g'≠g:=fun e=>h9 (hW.tokInj t' t tk1 tk g h10 ht (by rw[hg',e]) h3)
   obtain ⟨cur1,T1,hc1⟩:∃c T,w.heap[g']? = some (.cells c T (0,0)):=by
    obtain ⟨a1,l1,c1,_,_,_,q⟩:=hW.tokOk t' tk1 h10
    rw[hg'] at q
    obtain ⟨c,T,_,q,_⟩:=q
    exact ⟨c,T,q⟩
   exact ⟨hR.old g' (Array.getElem?_eq_some_iff.1 hc1).1 hne,fun o v hv=>hv⟩
 ·obtain ⟨a1,a2,a3⟩:=htk2 _ _ h8
  obtain ⟨b1,b2,b3⟩:=htk2 _ _ h9
  exact hW.tokInj t1 t2 a1 b1 g' a2 b2 (by rw[a3,h10]) (by rw[b3,h11])
 ·obtain ⟨a1,a2,a3⟩:=htk2 _ _ h8
  exact hW.tokBlk t1 a1 g' n a2 (by rw[a3,h9]) hn
 ·obtain ⟨e1,e2,e3⟩:=hW.glob g1 hg1
  have hne:g1≠g:=fun e=>e3 t tk ht (by rw[h3,e])
  refine ⟨by rw[hR.old g1 (hW.glob.lt hg1) hne];exact e1,e2,fun t' tk1 h8=>?_⟩
  obtain ⟨a1,a2,a3⟩:=htk2 _ _ h8
  rw[←a3]
  exact e3 t' a1 a2
 ·show (if t'=t then some tk' else G.tok t')=_
  rw[if_neg hn]
  exact h8
 ·rcases htk t' tk1 h8 with ⟨rfl,rfl⟩|⟨h9,h10⟩
  ·have:g'=g:=by have:tk.g=some g':=h9;rw[h3] at this;cases this;rfl
   subst this
   exact .inr (.inr htT)
  ·exact .inl h10
 ·refine ⟨⟨_,_,by rw[hlen]⟩,hes,fun _=>⟨tk',by show (if t=t then some tk' else G.tok t)=_;rw[if_pos rfl],h1,h2,g,cap,vs',h3,by rw[hlen],k1,k2,rfl⟩⟩
 ·intro h9
  refine h8 ?_
  show (if t'=t then some tk' else G.tok t')=none
  split
  ·rename_i e;subst e;rw[ht] at h9;cases h9
  ·exact h9
theorem turn_imm {P:Program}{f:FuncId}{k:Sz}{es es':List PV}(hb:bodied P f=true) (hlen:es'.length≤es.length)
  (h:∀(I:Imm) (w:World) (g cap:Nat) (cur:Array Value) (T:TypeId) (vs:List Value),RepL I es vs→(∀x∈vs,k.okV x=true)→es.length≤cap→cap≤maxLen→w.heap[g]? = some (.cells cur T (0,0))→cur.size=cap*k.size →
   (∀(j:Nat) (v:Value),(flatCells vs)[j]? = some v→cur[j]? = some v) →
   Calls P f #[.slice (some ⟨g,0,none⟩) es.length cap] w fun e w'=>∃vs' cur',e=.returned (.slice (some ⟨g,0,none⟩) es'.length cap)∧RowTo w w' g cur' T∧cur'.size=cur.size∧RepL I es' vs'∧(∀x∈vs',k.okV x=true) ∧
    ∀(j:Nat) (v:Value),(flatCells vs')[j]? = some v→cur'[j]? = some v):Turn P f k es (fun _=>.any) (.pv (.slice es')):=by
 refine ⟨hb,fun G w v t tk hW ht hex=>?_⟩
 obtain ⟨h1,h2,g,cap,vs,h3,rfl,h5,h6,h7⟩:=hex
 obtain ⟨a,len,cap',g1,g2,g3,g4⟩:=hW.tokOk t tk ht
 rw[h1] at g1
 cases g1
 rw[h3] at g4
 simp only at g4
 obtain ⟨cur,T,_,hgh,hcs,_,hx⟩:=g4
 obtain ⟨hno,hcur⟩:=hx _ h7
 rw[h2] at hcs
 refine (h G.I w g cap cur T vs h5 h6 g2 g3 hgh hcs hcur).mono ?_
 rintro e w' ⟨vs',cur',rfl,hR,hcs',k1,k2,k3⟩
 have htT:TokBlk G g (·=t):=⟨t,tk,rfl,ht,h3⟩
 let G':Gh:=⟨fun b o=>if b=g then (flatCells vs')[o]? else G.I b o,G.blk,fun t'=>if t'=t then none else G.tok t',G.cap⟩
 have hI:G.I.le G'.I:=by
  intro b o v hv
  show (if b=g then _ else _)=_
  rw[if_neg]
  ·exact hv
  ·rintro rfl
   rw[hno o] at hv;cases hv
 have htk':∀t' tk',G'.tok t'=some tk'→t'≠t∧G.tok t'=some tk':=by
  intro t' tk' h8
  have h9:(if t'=t then none else G.tok t')=some tk':=h8
  split at h9
  ·cases h9
  ·exact ⟨by assumption,h9⟩
 refine ⟨_,G',rfl,⟨fun b o v hv=>?_,hW.inj,fun n b hn=>Nat.lt_of_lt_of_le (hW.lt n b hn) hR.size,fun n b hn o=>?_,fun t' tk' h8=>?_,fun t1 t2 tk1 tk2 g' h8 h9 h10 h11=>?_,fun t1 tk1 g' n h8 h9 hn=>?_,fun g1 hg1=>?_⟩,
  ⟨hI,fun b o v hv=>?_,fun _ _=>rfl,fun _ _ h=>h,fun _ _ h=>.inl h,fun t' hn tk' h8=>?_,fun t' tk' g' h8 h9=>.inl (htk' _ _ h8).2,fun b hb _ hnt=>hR.old b hb (fun e=>hnt (by rw[e];exact htT)),hR.size,hR.os,hR.tape,hR.output,fun _ _=>rfl⟩,trivial,?_,fun t' h8=>?_,rfl⟩
 ·have hv':(if b=g then (flatCells vs')[o]? else G.I b o)=some v:=hv
  split at hv'
  ·rename_i e
   subst e
   rw[cell_row hR.row]
   exact k3 o v hv'
  ·rename_i hne
   rw[World.cell?_of_block (w:=w) (hR.old b (winv_lt hW hv') hne)]
   exact hW.imm b o v hv'
 ·show (if b=g then _ else _)=_
  rw[if_neg (fun e=>hW.tokBlk t tk g n ht h3 (by rw[←e];exact hn))]
  exact hW.blkImm n b hn o
 ·obtain ⟨h9,h10⟩:=htk' _ _ h8
  refine (hW.tokOk t' tk' h10).keep fun g' hg'=>?_
  have hne:g'≠g:=fun e=>h9 (hW.tokInj t' t tk' tk g h10 ht (by rw[hg',e]) h3)
  obtain ⟨cur1,T1,hc1⟩:∃c T,w.heap[g']? = some (.cells c T (0,0)):=by
   obtain ⟨a1,l1,c1,_,_,_,q⟩:=hW.tokOk t' tk' h10
   rw[hg'] at q
   obtain ⟨c,T,_,q,_⟩:=q
   exact ⟨c,T,q⟩
  refine ⟨hR.old g' (Array.getElem?_eq_some_iff.1 hc1).1 hne,fun o v hv=>?_⟩
  have hv':(if g'=g then (flatCells vs')[o]? else G.I g' o)=some v:=hv
  rw[if_neg hne] at hv'
  exact hv'
 ·exact hW.tokInj t1 t2 tk1 tk2 g' (htk' _ _ h8).2 (htk' _ _ h9).2 h10 h11
 ·exact hW.tokBlk t1 tk1 g' n (htk' _ _ h8).2 h9 hn
 ·obtain ⟨e1,e2,e3⟩:=hW.glob g1 hg1
  have hne:g1≠g:=fun e=>e3 t tk ht (by rw[h3,e])
  exact ⟨by rw[hR.old g1 (hW.glob.lt hg1) hne];exact e1,e2,fun t' tk' h8=>e3 t' tk' (htk' _ _ h8).2⟩
 ·have hv':(if b=g then (flatCells vs')[o]? else G.I b o)=some v:=hv
  split at hv'
  ·rename_i e;rw[e];exact .inr (.inr htT)
  ·exact .inl hv'
 ·show (if t'=t then none else G.tok t')=_
  rw[if_neg hn]
  exact h8
 ·have hE:RepE G'.I k es' g 0:=RepE_of_flat (RepL.mono hI _ _ k1) k2 fun j x hj=>by
   show (if g=g then (flatCells vs')[0+j]? else _)=_
   rw[if_pos rfl,Nat.zero_add]
   exact hj
  exact Rep_slice_mk (cap:=cap) hE (Nat.le_trans hlen g2) g3
 ·intro h9
  refine h8 ?_
  show (if t'=t then none else G.tok t')=none
  split
  ·rfl
  ·exact h9
end Go.Abs
namespace Go.Abs
open Go
section
variable {G:Gh}{w:World}(hW:WInv G w) {refs:List Box}(hbox:∀j bx,refs[j]? = some bx→BoxAt G [] w (.ref j) bx)
include hW
include hbox
end
end Go.Abs
namespace Go.Abs
open Go
def PV.imp (p q:PV):Prop:=∀I v,Rep I p v→Rep I q v
/-! The names of tokens do not matter -/
def tokSC (t:Nat):SC→SC
 | .own _ k es=>.own t k es
 | .pv p=>.pv p
 | .ptr n off=>.ptr n off
 | .ex t' k es=>.ex t' k es
 | .nilS=>.nilS
 | .fn f caps=>.fn f caps
 | .any=>.any
 | .mp n=>.mp n
 | .mpc ks=>.mpc ks
 | .rw n m=>.rw n m
 | .rwc k es=>.rwc k es
 | .sl n=>.sl n
def tokSCs (t:Nat):List SC→List SC
 | []=>[]
 |c::r=>tokSC t c::tokSCs t r
def tokSV (t:Nat):SV→SV
 | .one c=>.one (tokSC t c)
 | .agg cs=>.agg (tokSCs t cs)
def tokBox (t:Nat) (b:Box):Box:=⟨b.k,tokSV t b.c⟩
def tokBoxes (t:Nat):List Box→List Box
 | []=>[]
 |b::r=>tokBox t b::tokBoxes t r
def Res.tok (t:Nat):Res→Res
 | .ret r l=>.ret r (tokBoxes t l)
 | .pan r l=>.pan r (tokBoxes t l)
/-! A contract out of a walk at whose ends the token may have any name -/
def finT (P:Program) (rv:List ResultVar) (res:Res) (x:AX) (s:AS):Prop:=∃T,finR P rv (res.tok T) x s
attribute [go_sem] Res.tok tokBoxes tokBox tokSV tokSCs tokSC
end Go.Abs