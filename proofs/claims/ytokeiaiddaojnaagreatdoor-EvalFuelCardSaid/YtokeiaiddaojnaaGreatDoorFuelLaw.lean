/- The law EvalFuel. -/
import Derived.Test.YtokeiaiddaojnaaGreatDoorRunsLaw
set_option linter.unusedSimpArgs false
set_option linter.unusedVariables false
namespace Go.Abs.Kon
open Go Go.Proofs Go.Abs
set_option maxRecDepth 100000
set_option maxHeartbeats 400000
def Ev.st:Ev→Nat | .ok _ st _=>st | .bad _ _ st _=>st
def Ev.out:Ev→List ByteArray | .ok _ _ out=>out | .bad _ _ _ out=>out
def evM (F st:Nat) (out:List ByteArray) (r:Ev):Prop:=st≤r.st∧out <+: r.out∧∀n s o,r=.bad 3 n s o→s=F
theorem evM_ok {F st st':Nat}{out:List ByteArray}{v:Th}(h:st≤st'):evM F st out (.ok v st' out):=⟨h,List.prefix_rfl,fun _ _ _ e=>by cases e⟩
theorem evM_bad {F st st':Nat}{out:List ByteArray}{op n:Int}(h:st≤st') (ho:op≠3):evM F st out (.bad op n st' out):=⟨h,List.prefix_rfl,fun _ _ _ e=>by cases e;exact absurd rfl ho⟩
theorem evM_mono {F st st':Nat}{out out':List ByteArray}{r:Ev}(h:st≤st') (ho:out <+: out') (hr:evM F st' out' r):evM F st out r:=⟨Nat.le_trans h hr.1,ho.trans hr.2.1,hr.2.2⟩
theorem evM_then {F st:Nat}{out:List ByteArray}{r:Ev}{k:Th→Nat→List ByteArray→Ev}(hr:evM F st out r) (hk:∀v st' out',st≤st'→evM F st' out' (k v st' out')):evM F st out (andThen r k):=by
 cases r with
 |ok v s o=>exact evM_mono hr.1 hr.2.1 (hk v s o hr.1)
 |bad op n s o=>exact hr
theorem evM_ite {c:Prop} [Decidable c] {F st:Nat}{out:List ByteArray}{x y:Ev}(h1:evM F st out x) (h2:evM F st out y):evM F st out (if c then x else y):=by split<;>assumption
theorem evM_prim {F st:Nat}{k:Int}{l:List Th}{out:List ByteArray}:evM F st out (primE k l st out):=by
 unfold primE
 refine evM_ite (evM_bad (Nat.le_refl _) (by decide)) (evM_ite (evM_ite (evM_bad (Nat.le_refl _) (by decide)) ⟨Nat.le_refl _,List.prefix_append _ _,fun _ _ _ e=>by cases e⟩) ?_)
 cases primP k (l.head?.getD zeroH) (lastH l) with
 |inl n=>exact evM_bad (Nat.le_refl _) (by decide)
 |inr v=>exact evM_ok (Nat.le_refl _)
theorem evM_evs {F:Nat}{f:TermT→Nat→List ByteArray→Ev}{k:List Th→Nat→List ByteArray→Ev}(hf:∀t st out,evM F st out (f t st out)) (hk:∀vs st out,evM F st out (k vs st out)) :
  ∀(ts:List TermT) (acc:List Th) (st:Nat) (out:List ByteArray),evM F st out (evs f k ts acc st out)
 | [],acc,st,out=>hk acc st out
 |t::ts,acc,st,out=>by
  rw[evs]
  exact evM_then (hf t st out) fun v st' out' _=>evM_evs hf hk ts (acc++[v]) st' out'
theorem evM_K {F:Nat}{f:TermT→List Th→Nat→List ByteArray→Ev}(hf:∀t env st out,evM F st out (f t env st out)) (op:Int) (s:ByteArray) (names:List ByteArray) (l:List TermT) (env:List Th) (v:Th) (st:Nat) (out:List ByteArray) :
  evM F st out (evK f op s names l env v st out):=by
 have bad:∀{n:Int},evM F st out (.bad 4 n st out):=fun {_}=>evM_bad (Nat.le_refl _) (by decide)
 have ok:∀{w:Th},evM F st out (.ok w st out):=fun {_}=>evM_ok (Nat.le_refl _)
 unfold evK
 exact evM_ite (evM_then (hf _ env st out) fun a st' out' _=>evM_ite (hf _ _ st' out') (evM_bad (Nat.le_refl _) (by decide))) (evM_ite (evM_ite (hf _ _ st out) bad) (evM_ite ok (evM_ite ok (evM_ite ok (evM_ite (evM_ite (hf _ _ st out) bad) (evM_ite (evM_ite ok bad) (evM_ite (evM_ite ok bad)
  (evM_ite (evM_ite (hf _ _ st out) bad) (hf _ _ st out)))))))))
theorem ev_M (F:Nat):∀(g:Nat) (t:TermT) (env:List Th) (st:Nat) (out:List ByteArray),evM F st out (ev F g t env st out)
 | 0,_,_,st,out=>evM_bad (Nat.le_refl _) (by decide)
 |g+1,t,env,st,out=>by
  have up:∀{r:Ev},evM F (st+1) out r→evM F st out r:=fun {r} h=>evM_mono (Nat.le_succ _) List.prefix_rfl h
  have ok:∀{w:Th},evM F st out (.ok w (st+1) out):=fun {_}=>evM_ok (Nat.le_succ _)
  rw[ev]
  by_cases h0:st=F
  ·rw[if_pos h0]
   exact ⟨Nat.le_refl _,List.prefix_rfl,fun _ _ _ e=>by cases e;exact h0⟩
  rw[if_neg h0]
  refine evM_ite ok (evM_ite ok (evM_ite ok (evM_ite ok (evM_ite (evM_ite ?_ (evM_bad (Nat.le_succ _) (by decide))) (evM_ite (evM_bad (Nat.le_succ _) (by decide)) (evM_ite ?_ (evM_ite ?_ ?_)))))))
  ·by_cases h1:st+1=F
   ·rw[if_pos h1]
    exact ⟨Nat.le_succ _,List.prefix_rfl,fun _ _ _ e=>by cases e;exact h1⟩
   ·rw[if_neg h1]
    exact evM_ok (by omega)
  ·exact up (evM_evs (f:=fun x st out=>ev F g x env st out) (k:=fun vs st out=>.ok (recH t.names vs) st out) (fun x st' out'=>ev_M F g x env st' out') (fun vs st' out'=>evM_ok (Nat.le_refl _)) t.l [] (st+1) out)
  ·exact up (evM_evs (f:=fun x st out=>ev F g x env st out) (fun x st' out'=>ev_M F g x env st' out') (fun vs st' out'=>evM_prim) t.l [] (st+1) out)
  ·exact up (evM_then (ev_M F g _ env (st+1) out) fun v st' out' _=>evM_K (fun t env st out=>ev_M F g t env st out) _ _ _ _ _ _ _ _)
def evT (F:Nat) (r r':Ev):Prop:=(r'.st≤F→r=r')∧(F<r'.st→∃o,r=.bad 3 0 F o∧o <+: r'.out)
theorem evT_refl {F:Nat}{r:Ev}(h:r.st≤F):evT F r r:=⟨fun _=>rfl,fun h'=>by omega⟩
theorem evT_then {F G:Nat}{r r':Ev}{k k':Th→Nat→List ByteArray→Ev}(hr:evT F r r') (hm:∀v st out,evM G st out (k' v st out)) (hk:∀v st out,r'=.ok v st out→st≤F→evT F (k v st out) (k' v st out)):evT F (andThen r k) (andThen r' k'):=by
 by_cases h:r'.st≤F
 ·have e:=hr.1 h
  subst e
  cases r with
  |ok v st out=>exact hk v st out rfl h
  |bad op n st out=>exact evT_refl h
 ·obtain ⟨o,rfl,ho⟩:=hr.2 (by omega)
  cases r' with
  |ok v st out=>
   have hm':=hm v st out
   simp only[Ev.st,Ev.out] at h ho
   refine ⟨fun h'=>?_,fun _=>⟨o,rfl,ho.trans hm'.2.1⟩⟩
   have h2:(k' v st out).st≤F:=h'
   have:=hm'.1
   omega
  |bad op n st out=>exact ⟨fun h'=>absurd h' h,fun _=>⟨o,rfl,ho⟩⟩
theorem evT_ite {c:Prop} [Decidable c] {F:Nat}{x y x' y':Ev}(h1:evT F x x') (h2:evT F y y'):evT F (if c then x else y) (if c then x' else y'):=by split<;>assumption
theorem evT_same {F:Nat}{r:Ev}{st:Nat}(h:r.st=st) (hs:st≤F):evT F r r:=evT_refl (by omega)
theorem evT_prim {F st:Nat}{k:Int}{l:List Th}{out:List ByteArray}(hs:st≤F):evT F (primE k l st out) (primE k l st out):=by
 have:(primE k l st out).st=st:=by
  unfold primE
  split
  ·rfl
  ·split
   ·split<;>rfl
   ·cases primP k (l.head?.getD zeroH) (lastH l)<;>rfl
 exact evT_same this hs
theorem evT_evs {F G:Nat}{f f':TermT→Nat→List ByteArray→Ev}{k k':List Th→Nat→List ByteArray→Ev}{st0:Nat}(hf:∀t st out,st0≤st→st≤F→evT F (f t st out) (f' t st out)) (hk:∀vs st out,st≤F→evT F (k vs st out) (k' vs st out))
  (hM:∀t st out,evM G st out (f' t st out)) (hM2:∀vs st out,evM G st out (k' vs st out)):∀(ts:List TermT) (acc:List Th) (st:Nat) (out:List ByteArray),st0≤st→st≤F→evT F (evs f k ts acc st out) (evs f' k' ts acc st out)
 | [],acc,st,out,_,h=>hk acc st out h
 |t::ts,acc,st,out,h0,h=>by
  rw[evs,evs]
  refine evT_then (hf t st out h0 h) (fun v st' out'=>evM_evs hM hM2 ts (acc++[v]) st' out') fun v st' out' e h'=>?_
  have:=(hM t st out).1
  rw[e] at this
  exact evT_evs hf hk hM hM2 ts (acc++[v]) st' out' (Nat.le_trans h0 this) h'
theorem evT_K {F G:Nat}{f f':TermT→List Th→Nat→List ByteArray→Ev}{st0:Nat}(hf:∀t env st out,st0≤st→st≤F→evT F (f t env st out) (f' t env st out)) (hM:∀t env st out,evM G st out (f' t env st out)) (op:Int) (s:ByteArray) (names:List ByteArray) (l:List TermT) (env:List Th) (v:Th) (st:Nat) (out:List ByteArray) (h0:st0≤st) (hs:st≤F) :
  evT F (evK f op s names l env v st out) (evK f' op s names l env v st out):=by
 have one:∀{r:Ev},r.st=st→evT F r r:=fun {r} h=>evT_same h hs
 have go:∀t env,evT F (f t env st out) (f' t env st out):=fun t env=>hf t env st out h0 hs
 unfold evK
 refine evT_ite ?_ (evT_ite (evT_ite (go _ _) (one rfl)) (evT_ite (one rfl) (evT_ite (one rfl) (evT_ite (one rfl) (evT_ite (evT_ite (go _ _) (one rfl)) (evT_ite (evT_ite (one rfl) (one rfl)) (evT_ite (evT_ite (one rfl) (one rfl))
  (evT_ite (evT_ite (go _ _) (one rfl)) (go _ _)))))))))
 refine evT_then (go _ env) (fun a st' out'=>evM_ite (hM _ _ st' out') (evM_bad (Nat.le_refl _) (by decide))) fun a st' out' e h'=>?_
 have:=(hM (nthT l 1) env st out).1
 rw[e] at this
 exact evT_ite (hf _ _ st' out' (Nat.le_trans h0 this) h') (evT_same rfl h')
theorem ev_T {F F':Nat}(hF:F≤F'):∀(g g':Nat) (t:TermT) (env:List Th) (st:Nat) (out:List ByteArray),st≤F→F - st<g→F' - st<g'→evT F (ev F g t env st out) (ev F' g' t env st out)
 | 0,_,_,_,_,_,_,h,_=>by omega
 |g+1,0,_,_,_,_,_,_,h=>by omega
 |g+1,g'+1,t,env,st,out,hs,hg,hg'=>by
  by_cases h0:st=F
  ·by_cases h1:F=F'
   ·rw[ev,ev,if_pos h0,if_pos (h0.trans h1)]
    exact evT_refl (by show st≤F;omega)
   ·
    have e:ev F (g+1) t env st out=.bad 3 0 F out:=by rw[ev,if_pos h0,h0]
    have hm:=ev_M F' (g'+1) t env st out
    have hlt:F<(ev F' (g'+1) t env st out).st:=by
     rw[ev,if_neg (by omega)]
     have up:∀{r:Ev},evM F' (st+1) out r→F<r.st:=fun {r} h=>by have:=h.1;omega
     have okk:∀{w:Th},F<(Ev.ok w (st+1) out).st:=fun {_}=>by show F<st+1;omega
     have badd:∀{o n:Int},F<(Ev.bad o n (st+1) out).st:=fun {_ _}=>by show F<st+1;omega
     have ite:∀{c:Prop} [Decidable c] {x y:Ev},F<x.st→F<y.st→F<(if c then x else y).st:=fun {c} _ {x y} h1 h2=>by split<;>assumption
     refine ite okk (ite okk (ite okk (ite okk (ite (ite (ite badd (by show F<st+2;omega)) badd) (ite badd (ite ?_ (ite ?_ ?_)))))))
     ·exact up (evM_evs (f:=fun x st out=>ev F' g' x env st out) (k:=fun vs st out=>.ok (recH t.names vs) st out) (fun x st' out'=>ev_M F' g' x env st' out') (fun vs st' out'=>evM_ok (Nat.le_refl _)) t.l [] (st+1) out)
     ·exact up (evM_evs (f:=fun x st out=>ev F' g' x env st out) (fun x st' out'=>ev_M F' g' x env st' out') (fun vs st' out'=>evM_prim) t.l [] (st+1) out)
     ·exact up (evM_then (ev_M F' g' _ env (st+1) out) fun v st' out' _=>evM_K (fun t env st out=>ev_M F' g' t env st out) _ _ _ _ _ _ _ _)
    rw[e]
    exact ⟨fun h=>by omega,fun _=>⟨out,rfl,hm.2.1⟩⟩
  have hs1:st+1≤F:=by omega
  have hf:=fun t env st' out' (h:st+1≤st') (h':st'≤F)=>ev_T hF g g' t env st' out' h' (by omega) (by omega)
  have ok:∀{w:Th},evT F (.ok w (st+1) out) (.ok w (st+1) out):=fun {_}=>evT_same rfl hs1
  rw[ev,ev,if_neg h0,if_neg (show st≠F' by omega)]
  refine evT_ite ok (evT_ite ok (evT_ite ok (evT_ite ok (evT_ite (evT_ite ?_ (evT_same rfl hs1)) (evT_ite (evT_same rfl hs1) (evT_ite ?_ (evT_ite ?_ ?_)))))))
  ·by_cases h1:st+1=F
   ·by_cases h2:F=F'
    ·rw[if_pos h1,if_pos (h1.trans h2)]
     exact evT_same rfl hs1
    ·rw[if_pos h1,if_neg (by omega),h1]
     exact ⟨fun h=>by have:st+2≤F:=h;omega,fun _=>⟨out,rfl,List.prefix_rfl⟩⟩
   ·rw[if_neg h1,if_neg (by omega)]
    exact evT_same (st:=st+2) rfl (by omega)
  ·exact evT_evs (G:=F') (st0:=st+1) (f:=fun x st out=>ev F g x env st out) (f':=fun x st out=>ev F' g' x env st out) (k:=fun vs st out=>.ok (recH t.names vs) st out) (k':=fun vs st out=>.ok (recH t.names vs) st out) (fun x st' out' a b=>hf x env st' out' a b) (fun vs st' out' h=>evT_same rfl h)
    (fun x st' out'=>ev_M F' g' x env st' out') (fun vs st' out'=>evM_ok (Nat.le_refl _)) t.l [] (st+1) out (Nat.le_refl _) hs1
  ·exact evT_evs (G:=F') (st0:=st+1) (f:=fun x st out=>ev F g x env st out) (f':=fun x st out=>ev F' g' x env st out) (k:=fun vs st out=>primE t.n vs st out) (k':=fun vs st out=>primE t.n vs st out) (fun x st' out' a b=>hf x env st' out' a b) (fun vs st' out' h=>evT_prim h)
    (fun x st' out'=>ev_M F' g' x env st' out') (fun vs st' out'=>evM_prim) t.l [] (st+1) out (Nat.le_refl _) hs1
  ·refine evT_then (hf _ env (st+1) out (Nat.le_refl _) hs1) (fun v st' out'=>evM_K (fun t env st out=>ev_M F' g' t env st out) _ _ _ _ _ _ _ _) fun v st' out' e h'=>?_
   have:=(ev_M F' g' (nthT t.l 0) env (st+1) out).1
   rw[e] at this
   exact evT_K (st0:=st+1) hf (fun t env st out=>ev_M F' g' t env st out) _ _ _ _ _ _ _ _ this h'
end Go.Abs.Kon
namespace Go.Abs.Kon
open Go Go.Proofs Go.Abs
set_option maxRecDepth 100000
set_option maxHeartbeats 1000000
theorem outE_st (r:Ev):(outE r).st=r.st:=by
 cases r with
 |ok v st out=>rw[outE];cases obsT v 20000 1<;>rfl
 |bad op n st out=>rfl
theorem outE_out (r:Ev):(outE r).out=r.out:=by
 cases r with
 |ok v st out=>rw[outE];cases obsT v 20000 1<;>rfl
 |bad op n st out=>rfl
theorem outE_3 {r:Ev}(h:(outE r).op=3):∃n s o,r=.bad 3 n s o:=by
 cases r with
 |ok v st out=>
  rw[outE] at h
  cases ho:obsT v 20000 1<;>rw[ho] at h<;>cases h
 |bad op n st out=>
  have:op=3:=h
  subst this
  exact ⟨n,st,out,rfl⟩
def evC (t:TermT) (F:Nat):Ev:=ev F (F+1) t [] 0 []
theorem evC_T (t:TermT) {F F':Nat}(h:F≤F'):evT F (evC t F) (evC t F'):=ev_T h (F+1) (F'+1) t [] 0 [] (Nat.zero_le _) (by omega) (by omega)
theorem evC_M (t:TermT) (F:Nat):evM F 0 [] (evC t F):=ev_M F (F+1) t [] 0 []
theorem evC_le {t:TermT}(h:closedT t=true) (F:Nat):(evC t F).st≤F:=by
 have:=evI_ev F (F+1) t [] 0 [] (closed_ok h) (Nat.zero_le _) (by omega) (Nat.zero_le _)
 rw[evC]
 cases hr:ev F (F+1) t [] 0 [] with
 |ok v st out=>rw[hr] at this;exact this.2.2.1
 |bad op n st out=>rw[hr] at this;exact this.2.2.1
theorem runP_in {t:TermT}(h:closedT t=true) {F:Nat}(hF:F≤1048576):runP t F=(outE (evC t F),0):=by
 rw[runP,if_neg (by rw[h];decide),if_neg (by omega),runE,Int.toNat_natCast];rfl
theorem runP_open {t:TermT}(h:closedT t=false) (F:Int):runP t F=(zeroO,1):=by rw[runP,if_pos h]
theorem fuel_more {t:TermT}(h:closedT t=true) (n m:Nat):(outE (evC t n)).out <+: (outE (evC t (n+m))).out∧((outE (evC t n)).op=3→(outE (evC t n)).st=n∧(outE (evC t n)).st≤(outE (evC t (n+m))).st) ∧
  ((outE (evC t n)).op≠3→outE (evC t n)=outE (evC t (n+m))):=by
 have hT:=evC_T t (F:=n) (F':=n+m) (by omega)
 have hM:=evC_M t n
 rw[outE_out,outE_out,outE_st,outE_st]
 by_cases hs:(evC t (n+m)).st≤n
 ·rw[←hT.1 hs]
  refine ⟨List.prefix_rfl,fun h3=>?_,fun _=>rfl⟩
  obtain ⟨a,b,c,e⟩:=outE_3 h3
  refine ⟨?_,Int.le_refl _⟩
  rw[e];exact_mod_cast hM.2.2 a b c e
 ·obtain ⟨o,e,ho⟩:=hT.2 (by omega)
  rw[e]
  refine ⟨ho,fun _=>⟨rfl,?_⟩,fun hn=>absurd rfl hn⟩
  show (n:Int)≤((evC t (n+m)).st:Int)
  omega
theorem fuel_less {t:TermT}(n:Nat) (hn:(outE (evC t n)).op≠3) (hle:(evC t n).st≤n):outE (evC t (evC t n).st)=outE (evC t n)∧(evC t n).st≠0∧(outE (evC t ((evC t n).st - 1))).op=3∧(outE (evC t ((evC t n).st - 1))).st=((evC t n).st - 1:Nat):=by
 have h1:=(evC_T t (F:=(evC t n).st) (F':=n) hle).1 (Nat.le_refl _)
 have h0:(evC t n).st≠0:=by
  intro e
  rw[e] at h1
  have e0:evC t 0=.bad 3 0 0 []:=by rw[evC,ev,if_pos rfl]
  rw[←h1,e0] at hn
  exact hn rfl
 obtain ⟨o,e,_⟩:=(evC_T t (F:=(evC t n).st - 1) (F':=n) (by omega)).2 (by omega)
 refine ⟨by rw[h1],h0,?_,?_⟩
 ·rw[e];rfl
 ·rw[e];rfl
end Go.Abs.Kon
namespace Go.Abs.Kon
open Go Go.Proofs Go.Abs
set_option maxRecDepth 100000
set_option maxHeartbeats 1000000
theorem EvalFuel_spec (t:TermT) (n m:Int):Spec Tryz.prog 4 [pp (encT t),ii n,ii m] [] (.bool true) []:=by
 have hf:=fitsS_spec [t]
 have hok:=fitsS_ok [t]
 cases hb:fitsS [t] with
 |false=>
  rw[hb] at hf
  refine wk (rv:=[.tmp 6]) ann4 149 Tryz.func4 ?_
  simp only[go_sem]
  refine aCall_intro awake_spec ?_
  simp only[go_sem]
  refine aCall_intro hf ?_
  simp only[go_sem]
 |true=>
 rw[hb] at hf
 obtain ⟨h1,h2⟩:=hok hb t (by simp)
 by_cases g:n<0∨n>10000∨m<0∨m>10000
 ·refine wk (rv:=[.tmp 6]) ann4 149 Tryz.func4 ?_
  simp only[go_sem]
  refine aCall_intro awake_spec ?_
  simp only[go_sem]
  refine aCall_intro hf ?_
  by_cases g1:n<0
  ·simp only[go_sem,decide_eq_true g1]
  by_cases g2:n>10000
  ·simp only[go_sem,decide_eq_false g1,decide_eq_true g2]
  by_cases g3:m<0
  ·simp only[go_sem,decide_eq_false g1,decide_eq_false g2,decide_eq_true g3]
  ·have g4:m>10000:=by omega
   simp only[go_sem,decide_eq_false g1,decide_eq_false g2,decide_eq_false g3,decide_eq_true g4]
 have f1:decide (n<0)=false:=decide_eq_false (by omega)
 have f2:decide (n>10000)=false:=decide_eq_false (by omega)
 have f3:decide (m<0)=false:=decide_eq_false (by omega)
 have f4:decide (m>10000)=false:=decide_eq_false (by omega)
 have w1:IntKind.i64.wrap (n+m)=n+m:=wrapI (by omega) (by omega)
 have hA:=run_spec t n h1 h2
 have hB:=run_spec t (n+m) h1 h2
 cases hc:closedT t with
 |false=>
  have hS:=Same15_refl zeroO
  rw[runP_open hc] at hA hB
  generalize zeroO=z at hA hB hS
  have e1:((1:Int)==1)=true:=rfl
  refine wk (rv:=[.tmp 6]) ann4 149 Tryz.func4 ?_
  simp only[go_sem]
  refine aCall_intro awake_spec ?_
  simp only[go_sem]
  refine aCall_intro hf ?_
  simp only[go_sem,f1,f2,f3,f4]
  refine aCall_intro hA ?_
  simp only[go_sem,w1]
  refine aCall_intro hB ?_
  simp only[go_sem]
  refine aCall_intro hS ?_
  simp only[go_sem]
 |true=>
 obtain ⟨a,rfl⟩:=Int.eq_ofNat_of_zero_le (show 0≤n by omega)
 obtain ⟨b,rfl⟩:=Int.eq_ofNat_of_zero_le (show 0≤m by omega)
 have hab:((a:Int)+(b:Int))=((a+b:Nat):Int):=by simp
 rw[hab] at hB
 have w1:=w1.trans hab
 rw[runP_in hc (by omega)] at hA hB
 obtain ⟨p1,p2,p3⟩:=fuel_more hc a b
 have hle:=evC_le hc a
 have hst:=outE_st (evC t a)
 have hless:=fuel_less (t:=t) a
 have hS:=fun o=>Same15_refl o
 generalize hAg:outE (evC t a)=A at *
 generalize hBg:outE (evC t (a+b))=B at *
 have hlen:A.out.length≤B.out.length:=p1.length_le
 have htake:B.out.take A.out.length=A.out:=(List.prefix_iff_eq_take.1 p1).symm
 have hE:=EqualS A.out (B.out.take A.out.length)
 rw[htake,eqS_refl] at hE
 have k1:decide (A.st>(a:Int))=false:=decide_eq_false (by rw[hst];omega)
 have k2:decide ((A.out.length:Int)>(B.out.length:Int))=false:=decide_eq_false (by omega)
 have q0:((0:Int) != 0)=false:=rfl
 have hC:=fun (F:Nat) (hF:F≤1048576)=>run_spec t (F:Int) h1 h2
 have hSA:=Same15_refl A
 simp only[encOut] at hSA
 have k3:A.out.length≤B.out.length:=hlen
 have k4:(B.out.map PV.str).take A.out.length=A.out.map PV.str:=by rw[←List.map_take,htake]
 have k8:((A.out.length:Int)≤(B.out.length:Int))=True:=by simp;exact hlen
 have k9:((B.out.map PV.str).all fun x=>PV.hasSz Sz.one x)=true:=by
  rw[List.all_eq_true]
  intro x hx
  obtain ⟨y,_,rfl⟩:=List.mem_map.1 hx
  rfl
 have k0:((0:Int)==0)=true:=rfl
 by_cases h3:A.op=3
 ·have k5:(A.op==3)=true:=by rw[h3];rfl
  obtain ⟨s1,s2⟩:=p2 h3
  have k6:(A.st==(a:Int))=true:=by rw[s1,beq_iff_eq]
  have k7:decide (B.st≥A.st)=true:=decide_eq_true s2
  refine wk (rv:=[.tmp 6]) ann4 149 Tryz.func4 ?_
  simp only[go_sem]
  refine aCall_intro awake_spec ?_
  simp only[go_sem]
  refine aCall_intro hf ?_
  simp only[go_sem,f1,f2,f3,f4]
  refine aCall_intro hA ?_
  simp only[go_sem,w1,encOut,strs]
  refine aCall_intro hB ?_
  simp only[go_sem,encOut,strs,List.length_map,k1,k2,k3,k4,k8,k9,List.drop_zero,Int.toNat_natCast,Int.natCast_nonneg]
  iterate 8 (try (refine ⟨by kernel_rfl,?_⟩))
  refine aCall_intro hE ?_
  simp only[go_sem,k5,k6,k7]
  repeat' (first | (show anc _ _ _ _=true;kernel_rfl) | (refine And.intro ?_ ?_))
  all_goals try simp only[go_sem,k5,k6,k7]
 ·have k5:(A.op==3)=false:=by rw[beq_eq_false_iff_ne];exact h3
  have e:=p3 h3
  subst e
  obtain ⟨q1,q2,q3,q4⟩:=hless h3 hle
  generalize evC t a=r0 at hst hle q1 q2 q3 q4
  have hX:=hC r0.st (by omega)
  rw[runP_in hc (by omega),q1,←hst] at hX
  have hY:=hC (r0.st - 1) (by omega)
  rw[runP_in hc (by omega)] at hY
  have k6:(A.st==0)=false:=by rw[beq_eq_false_iff_ne,hst];omega
  have w3:IntKind.i64.wrap (A.st - 1)=((r0.st - 1:Nat):Int):=by rw[hst,wrapI (by omega) (by omega)];omega
  generalize outE (evC t (r0.st - 1))=Y at hY q3 q4
  have k7:(Y.op==3)=true:=by rw[q3];rfl
  have k11:(Y.st==((r0.st - 1:Nat):Int))=true:=by rw[q4,beq_iff_eq]
  refine wk (rv:=[.tmp 6]) ann4 149 Tryz.func4 ?_
  simp only[go_sem]
  refine aCall_intro awake_spec ?_
  simp only[go_sem]
  refine aCall_intro hf ?_
  simp only[go_sem,f1,f2,f3,f4]
  refine aCall_intro hA ?_
  simp only[go_sem,w1,encOut,strs]
  refine aCall_intro hB ?_
  simp only[go_sem,encOut,strs,List.length_map,k1,k2,k3,k4,k8,k9,List.drop_zero,Int.toNat_natCast,Int.natCast_nonneg]
  iterate 8 (try (refine ⟨by kernel_rfl,?_⟩))
  refine aCall_intro hE ?_
  simp only[go_sem,k5]
  repeat' (first | (show anc _ _ _ _=true;kernel_rfl) | (refine And.intro ?_ ?_))
  all_goals try simp only[go_sem,k5]
  refine aCall_intro hSA ?_
  simp only[go_sem]
  refine aCall_intro hX ?_
  simp only[go_sem,encOut,strs]
  refine aCall_intro hSA ?_
  simp only[go_sem,k6,w3]
  refine aCall_intro hY ?_
  simp only[go_sem,encOut,strs,k7,k11,w3]
end Go.Abs.Kon