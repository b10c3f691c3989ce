/- Evaluation: the reference's evaluator. -/
import Derived.Test.YtokeiaiddaojnaaGreatDoorEvalG
set_option linter.unusedSimpArgs false
set_option linter.unusedVariables false
namespace Go.Abs.Kon
open Go Go.Proofs Go.Abs
set_option maxRecDepth 100000
set_option maxHeartbeats 400000
theorem rval_8 (F g st:Nat) (hst:st≠F) (hF:F≤2000000) (hs:st≤F) (n:Int) (s:ByteArray) (con to:ConT) (k:List KindT) (names:List ByteArray) (x:TermT) (env:List Th) (out:List ByteArray) (T':Nat) (ih:RvS F g) (h:evOK (.mk 8 n s con to k names [x]) env) (he:env.length≤2*st) (hw:wHs (2*st) env) (hg:F - st<g+1) (ho:out.length≤1000) :
  SpecR Tryz.prog 38 [.one (.ptr (.ref 0) 0),pp (encT (.mk 8 n s con to k names [x])),pp (.slice (env.map encW).reverse)] [stB 0 F st out 0 0] (encS F T' (ev F (g+1) (.mk 8 n s con to k names [x]) env st out)):=by
 have hr:ev F (g+1) (.mk 8 n s con to k names [x]) env st out=andThen (ev F g x env (st+1) out) fun v st out=>.ok (packH v) st out:=by rw[ev,if_neg hst];rfl
 have h1:=evOK_part0 h (by decide)
 have hI:=evI_ev F g x env (st+1) out h1 (by omega) (by omega) ho
 have hV:=ev_W F g x env (st+1) out (by omega) (wHs_mono (by omega) hw)
 have hsp:=fun T=>ih x env (st+1) out T 0 h1 (by omega) (wHs_mono (by omega) hw) (by omega) (by omega) ho
 rw[hr]
 generalize ev F g x env (st+1) out=r1 at hI hV hsp ⊢
 have w1:=w_succ (show st≤2000000 by omega)
 have e1:=st_ne hst
 refine wS (rv:=[.cell 6 83]) ann38 307 Tryz.func38 ?_
 simp only[go_sem,stB,encT_mk,w1,e1]
 refine aCall_res (hsp _) ?_
 cases r1 with
 |bad op1 m1 st1 out1=>
  have d0:(op1 != 0)=true:=by simp[hI.1]
  simp only[go_sem,stB,encS_bad,finT_def,andThen,d0,encW_z,encW_simple,List.map_nil]
  exact ⟨_,rfl⟩
 |ok v st1 out1=>
  obtain ⟨hv,i1,i2,i3⟩:=hI
  obtain ⟨j1,j2⟩:=hV
  have he1:env.length+1≤2*st1:=by omega
  have hw1:wHs (2*st1) env:=wHs_mono (by omega) hw
  have hel:env.length≤1000000000:=by omega
  simp only[go_sem,stB,encS_ok,andThen,packH,encW_simple,List.map_cons,List.map_nil,finT_def]
  exact ⟨_,rfl⟩
theorem rval_12 (F g st:Nat) (hst:st≠F) (hF:F≤2000000) (hs:st≤F) (n:Int) (s:ByteArray) (con to:ConT) (k:List KindT) (names:List ByteArray) (x:TermT) (env:List Th) (out:List ByteArray) (T':Nat) (ih:RvS F g) (h:evOK (.mk 12 n s con to k names [x]) env) (he:env.length≤2*st) (hw:wHs (2*st) env) (hg:F - st<g+1) (ho:out.length≤1000) :
  SpecR Tryz.prog 38 [.one (.ptr (.ref 0) 0),pp (encT (.mk 12 n s con to k names [x])),pp (.slice (env.map encW).reverse)] [stB 0 F st out 0 0] (encS F T' (ev F (g+1) (.mk 12 n s con to k names [x]) env st out)):=by
 have hr:ev F (g+1) (.mk 12 n s con to k names [x]) env st out=andThen (ev F g x env (st+1) out) fun v st out=>.ok (injH s v) st out:=by rw[ev,if_neg hst];rfl
 have h1:=evOK_part0 h (by decide)
 have hI:=evI_ev F g x env (st+1) out h1 (by omega) (by omega) ho
 have hV:=ev_W F g x env (st+1) out (by omega) (wHs_mono (by omega) hw)
 have hsp:=fun T=>ih x env (st+1) out T 0 h1 (by omega) (wHs_mono (by omega) hw) (by omega) (by omega) ho
 rw[hr]
 generalize ev F g x env (st+1) out=r1 at hI hV hsp ⊢
 have w1:=w_succ (show st≤2000000 by omega)
 have e1:=st_ne hst
 refine wS (rv:=[.cell 6 83]) ann38 307 Tryz.func38 ?_
 simp only[go_sem,stB,encT_mk,w1,e1]
 refine aCall_res (hsp _) ?_
 cases r1 with
 |bad op1 m1 st1 out1=>
  have d0:(op1 != 0)=true:=by simp[hI.1]
  simp only[go_sem,stB,encS_bad,finT_def,andThen,d0,encW_z,encW_simple,List.map_nil]
  exact ⟨_,rfl⟩
 |ok v st1 out1=>
  obtain ⟨hv,i1,i2,i3⟩:=hI
  obtain ⟨j1,j2⟩:=hV
  have he1:env.length+1≤2*st1:=by omega
  have hw1:wHs (2*st1) env:=wHs_mono (by omega) hw
  have hel:env.length≤1000000000:=by omega
  simp only[go_sem,stB,encS_ok,andThen,injH,encW_simple,List.map_cons,List.map_nil,finT_def]
  exact ⟨_,rfl⟩
theorem rval_14 (F g st:Nat) (hst:st≠F) (hF:F≤2000000) (hs:st≤F) (n:Int) (s:ByteArray) (con to:ConT) (k:List KindT) (names:List ByteArray) (x:TermT) (env:List Th) (out:List ByteArray) (T':Nat) (ih:RvS F g) (h:evOK (.mk 14 n s con to k names [x]) env) (he:env.length≤2*st) (hw:wHs (2*st) env) (hg:F - st<g+1) (ho:out.length≤1000) :
  SpecR Tryz.prog 38 [.one (.ptr (.ref 0) 0),pp (encT (.mk 14 n s con to k names [x])),pp (.slice (env.map encW).reverse)] [stB 0 F st out 0 0] (encS F T' (ev F (g+1) (.mk 14 n s con to k names [x]) env st out)):=by
 have hr:ev F (g+1) (.mk 14 n s con to k names [x]) env st out=andThen (ev F g x env (st+1) out) fun v st out=>.ok (rollH v) st out:=by rw[ev,if_neg hst];rfl
 have h1:=evOK_part0 h (by decide)
 have hI:=evI_ev F g x env (st+1) out h1 (by omega) (by omega) ho
 have hV:=ev_W F g x env (st+1) out (by omega) (wHs_mono (by omega) hw)
 have hsp:=fun T=>ih x env (st+1) out T 0 h1 (by omega) (wHs_mono (by omega) hw) (by omega) (by omega) ho
 rw[hr]
 generalize ev F g x env (st+1) out=r1 at hI hV hsp ⊢
 have w1:=w_succ (show st≤2000000 by omega)
 have e1:=st_ne hst
 refine wS (rv:=[.cell 6 83]) ann38 307 Tryz.func38 ?_
 simp only[go_sem,stB,encT_mk,w1,e1]
 refine aCall_res (hsp _) ?_
 cases r1 with
 |bad op1 m1 st1 out1=>
  have d0:(op1 != 0)=true:=by simp[hI.1]
  simp only[go_sem,stB,encS_bad,finT_def,andThen,d0,encW_z,encW_simple,List.map_nil]
  exact ⟨_,rfl⟩
 |ok v st1 out1=>
  obtain ⟨hv,i1,i2,i3⟩:=hI
  obtain ⟨j1,j2⟩:=hV
  have he1:env.length+1≤2*st1:=by omega
  have hw1:wHs (2*st1) env:=wHs_mono (by omega) hw
  have hel:env.length≤1000000000:=by omega
  simp only[go_sem,stB,encS_ok,andThen,rollH,encW_simple,List.map_cons,List.map_nil,finT_def]
  exact ⟨_,rfl⟩
theorem rval_17 (F g st:Nat) (hst:st≠F) (hF:F≤2000000) (hs:st≤F) (n:Int) (s:ByteArray) (con to:ConT) (k:List KindT) (names:List ByteArray) (x y:TermT) (env:List Th) (out:List ByteArray) (T':Nat) (ih:RvS F g) (h:evOK (.mk 17 n s con to k names [x,y]) env) (he:env.length≤2*st) (hw:wHs (2*st) env) (hg:F - st<g+1) (ho:out.length≤1000) :
  SpecR Tryz.prog 38 [.one (.ptr (.ref 0) 0),pp (encT (.mk 17 n s con to k names [x,y])),pp (.slice (env.map encW).reverse)] [stB 0 F st out 0 0] (encS F T' (ev F (g+1) (.mk 17 n s con to k names [x,y]) env st out)):=by
 have hr:ev F (g+1) (.mk 17 n s con to k names [x,y]) env st out=andThen (ev F g x env (st+1) out) fun v st out=>ev F g y (v::env) st out:=by rw[ev,if_neg hst];rfl
 have h1:=evOK_part0 h (by decide)
 have hI:=evI_ev F g x env (st+1) out h1 (by omega) (by omega) ho
 have hV:=ev_W F g x env (st+1) out (by omega) (wHs_mono (by omega) hw)
 have hsp:=fun T=>ih x env (st+1) out T 0 h1 (by omega) (wHs_mono (by omega) hw) (by omega) (by omega) ho
 rw[hr]
 generalize ev F g x env (st+1) out=r1 at hI hV hsp ⊢
 have w1:=w_succ (show st≤2000000 by omega)
 have e1:=st_ne hst
 refine wS (rv:=[.cell 6 83]) ann38 307 Tryz.func38 ?_
 simp only[go_sem,stB,encT_mk,w1,e1]
 refine aCall_res (hsp _) ?_
 cases r1 with
 |bad op1 m1 st1 out1=>
  have d0:(op1 != 0)=true:=by simp[hI.1]
  simp only[go_sem,stB,encS_bad,finT_def,andThen,d0,encW_z,encW_simple,List.map_nil]
  exact ⟨_,rfl⟩
 |ok v st1 out1=>
  obtain ⟨hv,i1,i2,i3⟩:=hI
  obtain ⟨j1,j2⟩:=hV
  have he1:env.length+1≤2*st1:=by omega
  have hw1:wHs (2*st1) env:=wHs_mono (by omega) hw
  have hel:env.length≤1000000000:=by omega
  simp only[go_sem,stB,encS_ok,andThen]
  have hsp2:=fun T=>ih y (v::env) st1 out1 T 0 (evOK_part1v h hv (by decide)) (by simp;omega) ⟨j2,hw1⟩ i2 (by omega) i3
  generalize ev F g y (v::env) st1 out1=r3 at hsp2 ⊢
  refine aCall_intro (with_spec env v hel) ?_
  simp only[go_sem,stB]
  iterate 8 (try (refine ⟨by kernel_rfl,?_⟩))
  refine aCall_res (hsp2 _) ?_
  cases r3 with
  |bad op3 m3 st3 out3=>
   simp only[go_sem,stB,encS_ok,encS_bad,finT_def]
   exact ⟨_,rfl⟩
  |ok w st3 out3=>
   simp only[go_sem,stB,encS_ok,encS_bad,finT_def]
   exact ⟨_,rfl⟩
theorem rval_15 (F g st:Nat) (hst:st≠F) (hF:F≤2000000) (hs:st≤F) (n:Int) (s:ByteArray) (con to:ConT) (k:List KindT) (names:List ByteArray) (x:TermT) (env:List Th) (out:List ByteArray) (T':Nat) (ih:RvS F g) (h:evOK (.mk 15 n s con to k names [x]) env) (he:env.length≤2*st) (hw:wHs (2*st) env) (hg:F - st<g+1) (ho:out.length≤1000) :
  SpecR Tryz.prog 38 [.one (.ptr (.ref 0) 0),pp (encT (.mk 15 n s con to k names [x])),pp (.slice (env.map encW).reverse)] [stB 0 F st out 0 0] (encS F T' (ev F (g+1) (.mk 15 n s con to k names [x]) env st out)):=by
 have hr:ev F (g+1) (.mk 15 n s con to k names [x]) env st out=andThen (ev F g x env (st+1) out) fun v st out=>if v.op=5 then .ok (nthH v.l 0) st out else .bad 4 0 st out:=by rw[ev,if_neg hst];rfl
 have h1:=evOK_part0 h (by decide)
 have hI:=evI_ev F g x env (st+1) out h1 (by omega) (by omega) ho
 have hV:=ev_W F g x env (st+1) out (by omega) (wHs_mono (by omega) hw)
 have hsp:=fun T=>ih x env (st+1) out T 0 h1 (by omega) (wHs_mono (by omega) hw) (by omega) (by omega) ho
 rw[hr]
 generalize ev F g x env (st+1) out=r1 at hI hV hsp ⊢
 have w1:=w_succ (show st≤2000000 by omega)
 have e1:=st_ne hst
 refine wS (rv:=[.cell 6 83]) ann38 307 Tryz.func38 ?_
 simp only[go_sem,stB,encT_mk,w1,e1]
 refine aCall_res (hsp _) ?_
 cases r1 with
 |bad op1 m1 st1 out1=>
  have d0:(op1 != 0)=true:=by simp[hI.1]
  simp only[go_sem,stB,encS_bad,finT_def,andThen,d0,encW_z,encW_simple,List.map_nil]
  exact ⟨_,rfl⟩
 |ok v st1 out1=>
  obtain ⟨hv,i1,i2,i3⟩:=hI
  obtain ⟨j1,j2⟩:=hV
  have he1:env.length+1≤2*st1:=by omega
  have hw1:wHs (2*st1) env:=wHs_mono (by omega) hw
  have hel:env.length≤1000000000:=by omega
  simp only[go_sem,stB,encS_ok,andThen]
  by_cases h5:v.op=5
  ·obtain ⟨w,hw5⟩:∃w,v.l=[w]:=by
    have:=((okH_def v).1 hv).2.2.2.1 (.inr (.inl h5))
    match hl:v.l,this with
    | [w],_=>exact ⟨w,rfl⟩
   rw[if_pos h5,hw5,nthH_zero]
   refine aCall_res (open_ok _ F st1 out1 v w 5 h5 hw5 0) ?_
   simp only[go_sem,stB,encS_ok,encS_bad,finT_def]
   exact ⟨_,rfl⟩
  ·rw[if_neg h5]
   refine aCall_res (open_bad _ F st1 out1 v 5 h5 0) ?_
   simp only[go_sem,stB,encS_ok,encS_bad,finT_def]
   exact ⟨_,rfl⟩
theorem rval_5 (F g st:Nat) (hst:st≠F) (hF:F≤2000000) (hs:st≤F) (n:Int) (s:ByteArray) (con to:ConT) (k:List KindT) (names:List ByteArray) (x y:TermT) (env:List Th) (out:List ByteArray) (T':Nat) (ih:RvS F g) (h:evOK (.mk 5 n s con to k names [x,y]) env) (he:env.length≤2*st) (hw:wHs (2*st) env) (hg:F - st<g+1) (ho:out.length≤1000) :
  SpecR Tryz.prog 38 [.one (.ptr (.ref 0) 0),pp (encT (.mk 5 n s con to k names [x,y])),pp (.slice (env.map encW).reverse)] [stB 0 F st out 0 0] (encS F T' (ev F (g+1) (.mk 5 n s con to k names [x,y]) env st out)):=by
 have hr:ev F (g+1) (.mk 5 n s con to k names [x,y]) env st out=andThen (ev F g x env (st+1) out) fun v st out=>andThen (ev F g y env st out) fun a st out=>if isFun v 4=true then ev F g (nthT v.part.l 0) (a::v.envOf) st out else .bad 4 0 st out:=by rw[ev,if_neg hst];rfl
 have h1:=evOK_part0 h (by decide)
 have hI:=evI_ev F g x env (st+1) out h1 (by omega) (by omega) ho
 have hV:=ev_W F g x env (st+1) out (by omega) (wHs_mono (by omega) hw)
 have hsp:=fun T=>ih x env (st+1) out T 0 h1 (by omega) (wHs_mono (by omega) hw) (by omega) (by omega) ho
 rw[hr]
 generalize ev F g x env (st+1) out=r1 at hI hV hsp ⊢
 have w1:=w_succ (show st≤2000000 by omega)
 have e1:=st_ne hst
 refine wS (rv:=[.cell 6 83]) ann38 307 Tryz.func38 ?_
 simp only[go_sem,stB,encT_mk,w1,e1]
 refine aCall_res (hsp _) ?_
 cases r1 with
 |bad op1 m1 st1 out1=>
  have d0:(op1 != 0)=true:=by simp[hI.1]
  simp only[go_sem,stB,encS_bad,finT_def,andThen,d0,encW_z,encW_simple,List.map_nil]
  exact ⟨_,rfl⟩
 |ok v st1 out1=>
  obtain ⟨hv,i1,i2,i3⟩:=hI
  obtain ⟨j1,j2⟩:=hV
  have he1:env.length+1≤2*st1:=by omega
  have hw1:wHs (2*st1) env:=wHs_mono (by omega) hw
  have hel:env.length≤1000000000:=by omega
  simp only[go_sem,stB,encS_ok,andThen]
  have h2:=evOK_part1 h (by decide)
  have hI2:=evI_ev F g y env st1 out1 h2 i2 (by omega) i3
  have hV2:=ev_W F g y env st1 out1 (by omega) hw1
  have hsp2:=fun T=>ih y env st1 out1 T 0 h2 (by omega) hw1 i2 (by omega) i3
  generalize ev F g y env st1 out1=r2 at hI2 hV2 hsp2 ⊢
  refine aCall_res (hsp2 _) ?_
  cases r2 with
  |bad op2 m2 st2 out2=>
   simp only[go_sem,stB,encS_bad,andThen]
   refine aCall_res (enter_stopped _ F st2 out2 op2 m2 hI2.1 v 4 [zeroH] 0) ?_
   simp only[go_sem,stB,encS_ok,encS_bad,finT_def]
   exact ⟨_,rfl⟩
  |ok a st2 out2=>
   obtain ⟨ha,k1,k2,k3⟩:=hI2
   obtain ⟨q1,q2⟩:=hV2
   simp only[go_sem,stB,encS_ok,andThen]
   cases hf:isFun v 4 with
   |false=>
    rw[if_neg (by decide)]
    refine aCall_res (enter_bad _ F st2 out2 v 4 hf [a] 0) ?_
    simp only[go_sem,stB,encS_ok,encS_bad,finT_def]
    exact ⟨_,rfl⟩
   |true=>
    rw[if_pos rfl]
    obtain ⟨b,hb⟩:∃b,v.part.l=[b]:=by
     have:=(body_ok hv hf (.inl rfl)).1
     match hl:v.part.l,this with
     | [b],_=>exact ⟨b,rfl⟩
    have h3:=fun_ok hv hf ha
    have e3:nthT v.part.l 0=b:=by rw[hb];rfl
    rw[e3] at h3 ⊢
    obtain ⟨z1,z2⟩:=wH_envOf j2
    have hsp3:=fun T=>ih b (a::v.envOf) st2 out2 T 0 h3 (by simp;omega) ⟨q2,wHs_mono (by omega) z2⟩ k2 (by omega) k3
    generalize ev F g b (a::v.envOf) st2 out2=r3 at hsp3 ⊢
    refine aCall_res (enter_ok _ F st2 out2 v 4 hf [a] b hb (by simp;omega) r3 hsp3 0) ?_
    cases r3 with
    |bad op3 m3 st3 out3=>
     simp only[go_sem,stB,encS_ok,encS_bad,finT_def]
     exact ⟨_,rfl⟩
    |ok w st3 out3=>
     simp only[go_sem,stB,encS_ok,encS_bad,finT_def]
     exact ⟨_,rfl⟩
theorem rval_7 (F g st:Nat) (hst:st≠F) (hF:F≤2000000) (hs:st≤F) (n:Int) (s:ByteArray) (con to:ConT) (k:List KindT) (names:List ByteArray) (x:TermT) (env:List Th) (out:List ByteArray) (T':Nat) (ih:RvS F g) (h:evOK (.mk 7 n s con to k names [x]) env) (he:env.length≤2*st) (hw:wHs (2*st) env) (hg:F - st<g+1) (ho:out.length≤1000) :
  SpecR Tryz.prog 38 [.one (.ptr (.ref 0) 0),pp (encT (.mk 7 n s con to k names [x])),pp (.slice (env.map encW).reverse)] [stB 0 F st out 0 0] (encS F T' (ev F (g+1) (.mk 7 n s con to k names [x]) env st out)):=by
 have hr:ev F (g+1) (.mk 7 n s con to k names [x]) env st out=andThen (ev F g x env (st+1) out) fun v st out=>if isFun v 6=true then ev F g (nthT v.part.l 0) v.envOf st out else .bad 4 0 st out:=by rw[ev,if_neg hst];rfl
 have h1:=evOK_part0 h (by decide)
 have hI:=evI_ev F g x env (st+1) out h1 (by omega) (by omega) ho
 have hV:=ev_W F g x env (st+1) out (by omega) (wHs_mono (by omega) hw)
 have hsp:=fun T=>ih x env (st+1) out T 0 h1 (by omega) (wHs_mono (by omega) hw) (by omega) (by omega) ho
 rw[hr]
 generalize ev F g x env (st+1) out=r1 at hI hV hsp ⊢
 have w1:=w_succ (show st≤2000000 by omega)
 have e1:=st_ne hst
 refine wS (rv:=[.cell 6 83]) ann38 307 Tryz.func38 ?_
 simp only[go_sem,stB,encT_mk,w1,e1]
 refine aCall_res (hsp _) ?_
 cases r1 with
 |bad op1 m1 st1 out1=>
  have d0:(op1 != 0)=true:=by simp[hI.1]
  simp only[go_sem,stB,encS_bad,finT_def,andThen,d0,encW_z,encW_simple,List.map_nil]
  exact ⟨_,rfl⟩
 |ok v st1 out1=>
  obtain ⟨hv,i1,i2,i3⟩:=hI
  obtain ⟨j1,j2⟩:=hV
  have he1:env.length+1≤2*st1:=by omega
  have hw1:wHs (2*st1) env:=wHs_mono (by omega) hw
  have hel:env.length≤1000000000:=by omega
  simp only[go_sem,stB,encS_ok,andThen]
  cases hf:isFun v 6 with
  |false=>
   rw[if_neg (by decide)]
   refine aCall_res (enter_bad _ F st1 out1 v 6 hf [] 0) ?_
   simp only[go_sem,stB,encS_ok,encS_bad,finT_def]
   exact ⟨_,rfl⟩
  |true=>
   rw[if_pos rfl]
   obtain ⟨b,hb⟩:∃b,v.part.l=[b]:=by
    have:=(body_ok hv hf (.inr rfl)).1
    match hl:v.part.l,this with
    | [b],_=>exact ⟨b,rfl⟩
   have h3:=tfun_ok hv hf
   have e3:nthT v.part.l 0=b:=by rw[hb];rfl
   rw[e3] at h3 ⊢
   obtain ⟨z1,z2⟩:=wH_envOf j2
   have hsp3:=fun T=>ih b v.envOf st1 out1 T 0 h3 (by omega) z2 i2 (by omega) i3
   generalize ev F g b v.envOf st1 out1=r3 at hsp3 ⊢
   refine aCall_res (enter_ok _ F st1 out1 v 6 hf [] b hb (by simp;omega) r3 hsp3 0) ?_
   cases r3 with
   |bad op3 m3 st3 out3=>
    simp only[go_sem,stB,encS_ok,encS_bad,finT_def]
    exact ⟨_,rfl⟩
   |ok w st3 out3=>
    simp only[go_sem,stB,encS_ok,encS_bad,finT_def]
    exact ⟨_,rfl⟩
theorem rval_9 (F g st:Nat) (hst:st≠F) (hF:F≤2000000) (hs:st≤F) (n:Int) (s:ByteArray) (con to:ConT) (k:List KindT) (names:List ByteArray) (x y:TermT) (env:List Th) (out:List ByteArray) (T':Nat) (ih:RvS F g) (h:evOK (.mk 9 n s con to k names [x,y]) env) (he:env.length≤2*st) (hw:wHs (2*st) env) (hg:F - st<g+1) (ho:out.length≤1000) :
  SpecR Tryz.prog 38 [.one (.ptr (.ref 0) 0),pp (encT (.mk 9 n s con to k names [x,y])),pp (.slice (env.map encW).reverse)] [stB 0 F st out 0 0] (encS F T' (ev F (g+1) (.mk 9 n s con to k names [x,y]) env st out)):=by
 have hr:ev F (g+1) (.mk 9 n s con to k names [x,y]) env st out=andThen (ev F g x env (st+1) out) fun v st out=>if v.op=6 then ev F g y (nthH v.l 0::env) st out else .bad 4 0 st out:=by rw[ev,if_neg hst];rfl
 have h1:=evOK_part0 h (by decide)
 have hI:=evI_ev F g x env (st+1) out h1 (by omega) (by omega) ho
 have hV:=ev_W F g x env (st+1) out (by omega) (wHs_mono (by omega) hw)
 have hsp:=fun T=>ih x env (st+1) out T 0 h1 (by omega) (wHs_mono (by omega) hw) (by omega) (by omega) ho
 rw[hr]
 generalize ev F g x env (st+1) out=r1 at hI hV hsp ⊢
 have w1:=w_succ (show st≤2000000 by omega)
 have e1:=st_ne hst
 refine wS (rv:=[.cell 6 83]) ann38 307 Tryz.func38 ?_
 simp only[go_sem,stB,encT_mk,w1,e1]
 refine aCall_res (hsp _) ?_
 cases r1 with
 |bad op1 m1 st1 out1=>
  have d0:(op1 != 0)=true:=by simp[hI.1]
  simp only[go_sem,stB,encS_bad,finT_def,andThen,d0,encW_z,encW_simple,List.map_nil]
  exact ⟨_,rfl⟩
 |ok v st1 out1=>
  obtain ⟨hv,i1,i2,i3⟩:=hI
  obtain ⟨j1,j2⟩:=hV
  have he1:env.length+1≤2*st1:=by omega
  have hw1:wHs (2*st1) env:=wHs_mono (by omega) hw
  have hel:env.length≤1000000000:=by omega
  simp only[go_sem,stB,encS_ok,andThen]
  by_cases h5:v.op=6
  ·obtain ⟨w,hw5⟩:∃w,v.l=[w]:=by
    have:=((okH_def v).1 hv).2.2.2.1 (.inr (.inr h5))
    match hl:v.l,this with
    | [w],_=>exact ⟨w,rfl⟩
   have hwok:okH w:=by have:=((okH_def v).1 hv).2.2.2.2.2.1;rw[hw5] at this;exact this.1
   have hww:wH (2*st1) w:=by have:=(wH_env j2).2.1;rw[hw5] at this;exact this.1
   rw[if_pos h5,hw5,nthH_zero]
   refine aCall_res (open_ok _ F st1 out1 v w 6 h5 hw5 0) ?_
   have hsp3:=fun T=>ih y (w::env) st1 out1 T 0 (evOK_part1v h hwok (by decide)) (by simp;omega) ⟨hww,hw1⟩ i2 (by omega) i3
   generalize ev F g y (w::env) st1 out1=r3 at hsp3 ⊢
   simp only[go_sem,stB,encS_ok]
   refine aCall_intro (with_spec env w hel) ?_
   simp only[go_sem,stB]
   iterate 8 (try (refine ⟨by kernel_rfl,?_⟩))
   refine aCall_res (hsp3 _) ?_
   cases r3 with
   |bad op3 m3 st3 out3=>
    simp only[go_sem,stB,encS_ok,encS_bad,finT_def]
    exact ⟨_,rfl⟩
   |ok w st3 out3=>
    simp only[go_sem,stB,encS_ok,encS_bad,finT_def]
    exact ⟨_,rfl⟩
  ·rw[if_neg h5]
   refine aCall_res (open_bad _ F st1 out1 v 6 h5 0) ?_
   simp only[go_sem,stB,encS_bad]
   refine aCall_intro (with_spec env zeroH hel) ?_
   simp only[go_sem,stB]
   iterate 8 (try (refine ⟨by kernel_rfl,?_⟩))
   refine aCall_res (eval_stopped _ F st1 out1 4 0 (by decide) y (.slice ((zeroH::env).map encW).reverse) 0) ?_
   simp only[go_sem,stB,encS_ok,encS_bad,finT_def]
   exact ⟨_,rfl⟩
end Go.Abs.Kon
namespace Go.Abs.Kon
open Go Go.Proofs Go.Abs
set_option maxRecDepth 100000
set_option maxHeartbeats 400000
theorem rval_11 (F g st:Nat) (hst:st≠F) (hF:F≤2000000) (hs:st≤F) (n:Int) (s:ByteArray) (con to:ConT) (k:List KindT) (names:List ByteArray) (x:TermT) (env:List Th) (out:List ByteArray) (T':Nat) (ih:RvS F g) (h:evOK (.mk 11 n s con to k names [x]) env) (he:env.length≤2*st) (hw:wHs (2*st) env) (hg:F - st<g+1) (ho:out.length≤1000) :
  SpecR Tryz.prog 38 [.one (.ptr (.ref 0) 0),pp (encT (.mk 11 n s con to k names [x])),pp (.slice (env.map encW).reverse)] [stB 0 F st out 0 0] (encS F T' (ev F (g+1) (.mk 11 n s con to k names [x]) env st out)):=by
 have hr:ev F (g+1) (.mk 11 n s con to k names [x]) env st out=andThen (ev F g x env (st+1) out) fun v st out=>if v.op=3∧0≤findS v.names s 0 then .ok (nthH v.l (findS v.names s 0).toNat) st out else .bad 4 0 st out:=by rw[ev,if_neg hst];rfl
 have h1:=evOK_part0 h (by decide)
 have hI:=evI_ev F g x env (st+1) out h1 (by omega) (by omega) ho
 have hV:=ev_W F g x env (st+1) out (by omega) (wHs_mono (by omega) hw)
 have hsp:=fun T=>ih x env (st+1) out T 0 h1 (by omega) (wHs_mono (by omega) hw) (by omega) (by omega) ho
 rw[hr]
 generalize ev F g x env (st+1) out=r1 at hI hV hsp ⊢
 have w1:=w_succ (show st≤2000000 by omega)
 have e1:=st_ne hst
 refine wS (rv:=[.cell 6 83]) ann38 307 Tryz.func38 ?_
 simp only[go_sem,stB,encT_mk,w1,e1]
 refine aCall_res (hsp _) ?_
 cases r1 with
 |bad op1 m1 st1 out1=>
  have d0:(op1 != 0)=true:=by simp[hI.1]
  simp only[go_sem,stB,encS_bad,finT_def,andThen,d0,encW_z,encW_simple,List.map_nil]
  exact ⟨_,rfl⟩
 |ok v st1 out1=>
  obtain ⟨hv,i1,i2,i3⟩:=hI
  obtain ⟨j1,j2⟩:=hV
  have he1:env.length+1≤2*st1:=by omega
  have hw1:wHs (2*st1) env:=wHs_mono (by omega) hw
  have hel:env.length≤1000000000:=by omega
  cases v with
  |mk op9 n9 s9 names9 l9 part9 env9 fix9=>
  simp only[go_sem,stB,encS_ok,andThen,encW_mk]
  by_cases h5:op9=3
  ·have d1:(op9==3)=true:=by rw[h5];rfl
   simp only[go_sem,d1]
   refine aCall_intro (Find_spec names9 s) ?_
   by_cases h6:0≤findS names9 s 0
   ·have d2:decide (findS names9 s 0≥0)=true:=decide_eq_true h6
    have hlt:=(findS_lt names9 s 0 (Int.le_refl _)).resolve_left (by omega)
    have hll:names9.length=l9.length:=((okH_def _).1 hv).2.2.1 h5
    have hx:(l9.map encW)[(findS names9 s 0).toNat]? = some (encW (nthH l9 (findS names9 s 0).toNat)):=by
     rw[List.getElem?_map,nthH,List.getD_eq_getElem?_getD,List.getElem?_eq_getElem (by omega)];rfl
    rw[if_pos ⟨h5,h6⟩]
    simp only[go_sem,stB,d2,h6,hx,encS_ok,finT_def,Th.l,Th.names]
    exact ⟨_,rfl⟩
   ·have d2:decide (findS names9 s 0≥0)=false:=decide_eq_false h6
    rw[if_neg (fun e=>h6 e.2)]
    simp only[go_sem,stB,d2]
    refine aCall_res (stop_spec _ F st1 out1 4 0 0) ?_
    simp only[go_sem,stB,encS_ok,encS_bad,finT_def]
    exact ⟨_,rfl⟩
  ·have d1:(op9==3)=false:=by rw[beq_eq_false_iff_ne];exact h5
   rw[if_neg (fun e=>h5 e.1)]
   simp only[go_sem,stB,d1]
   refine aCall_res (stop_spec _ F st1 out1 4 0 0) ?_
   simp only[go_sem,stB,encS_ok,encS_bad,finT_def]
   exact ⟨_,rfl⟩
theorem rval_13 (F g st:Nat) (hst:st≠F) (hF:F≤2000000) (hs:st≤F) (n:Int) (s:ByteArray) (con to:ConT) (k:List KindT) (names:List ByteArray) (x:TermT) (ys:List TermT) (env:List Th) (out:List ByteArray) (T':Nat) (ih:RvS F g) (h:evOK (.mk 13 n s con to k names (x::ys)) env) (he:env.length≤2*st) (hw:wHs (2*st) env) (hg:F - st<g+1) (ho:out.length≤1000) :
  SpecR Tryz.prog 38 [.one (.ptr (.ref 0) 0),pp (encT (.mk 13 n s con to k names (x::ys))),pp (.slice (env.map encW).reverse)] [stB 0 F st out 0 0] (encS F T' (ev F (g+1) (.mk 13 n s con to k names (x::ys)) env st out)):=by
 have hr:ev F (g+1) (.mk 13 n s con to k names (x::ys)) env st out=andThen (ev F g x env (st+1) out) fun v st out=>if v.op=4∧0≤findS names v.s 0 then ev F g (nthT (x::ys) ((findS names v.s 0).toNat+1)) (nthH v.l 0::env) st out else .bad 4 0 st out:=by rw[ev,if_neg hst];rfl
 have h1:=evOK_part0 h (by decide)
 have hI:=evI_ev F g x env (st+1) out h1 (by omega) (by omega) ho
 have hV:=ev_W F g x env (st+1) out (by omega) (wHs_mono (by omega) hw)
 have hsp:=fun T=>ih x env (st+1) out T 0 h1 (by omega) (wHs_mono (by omega) hw) (by omega) (by omega) ho
 rw[hr]
 generalize ev F g x env (st+1) out=r1 at hI hV hsp ⊢
 have w1:=w_succ (show st≤2000000 by omega)
 have e1:=st_ne hst
 refine wS (rv:=[.cell 6 83]) ann38 307 Tryz.func38 ?_
 simp only[go_sem,stB,encT_mk,w1,e1]
 refine aCall_res (hsp _) ?_
 cases r1 with
 |bad op1 m1 st1 out1=>
  have d0:(op1 != 0)=true:=by simp[hI.1]
  simp only[go_sem,stB,encS_bad,finT_def,andThen,d0,encW_z,encW_simple,List.map_nil]
  exact ⟨_,rfl⟩
 |ok v st1 out1=>
  obtain ⟨hv,i1,i2,i3⟩:=hI
  obtain ⟨j1,j2⟩:=hV
  have he1:env.length+1≤2*st1:=by omega
  have hw1:wHs (2*st1) env:=wHs_mono (by omega) hw
  have hel:env.length≤1000000000:=by omega
  cases v with
  |mk op9 n9 s9 names9 l9 part9 env9 fix9=>
  simp only[go_sem,stB,encS_ok,andThen,encW_mk]
  by_cases h5:op9=4
  ·have d1:(op9==4)=true:=by rw[h5];rfl
   simp only[go_sem,d1]
   refine aCall_intro (Find_spec names s9) ?_
   by_cases h6:0≤findS names s9 0
   ·have d2:decide (findS names s9 0≥0)=true:=decide_eq_true h6
    have hlt:=(findS_lt names s9 0 (Int.le_refl _)).resolve_left (by omega)
    obtain ⟨w,hw5⟩:∃w,l9=[w]:=by
     have:l9.length=1:=((okH_def _).1 hv).2.2.2.1 (.inl h5)
     match hl:l9,this with
     | [w],_=>exact ⟨w,rfl⟩
    subst hw5
    have hwok:okH w:=((okH_def _).1 hv).2.2.2.2.2.1.1
    have hww:wH (2*st1) w:=(wH_env j2).2.1.1
    have hlen:=parts_case h.1 rfl
    have hlen':(x::ys).length=names.length+1:=hlen
    have hnl:names.length≤1000000:=by
     have hn:=node_names h.1
     exact hn
    have hj:(findS names s9 0).toNat+1<(x::ys).length:=by omega
    obtain ⟨j,hje⟩:=Int.eq_ofNat_of_zero_le h6
    have hje':(findS names s9 0).toNat=j:=by rw[hje];rfl
    rw[hje'] at hj
    have w4:IntKind.i64.wrap ((j:Int)+1)=((j+1:Nat):Int):=by rw[wrapI (by omega) (by omega)];simp
    have hok:=part_ok1 (i:=j+1) h hwok hj (insT_case j)
    have hok':evOK (nthT (x::ys) (j+1)) (w::env):=hok
    have hx:(encT x::ys.map encT)[j+1]? = some (encT (nthT (x::ys) (j+1))):=by
     have:(encT x::ys.map encT)=(x::ys).map encT:=rfl
     rw[this,List.getElem?_map,nthT,List.getD_eq_getElem?_getD,List.getElem?_eq_getElem hj];rfl
    have hsp3:=fun T=>ih (nthT (x::ys) (j+1)) (w::env) st1 out1 T 0 hok' (by simp;omega) ⟨hww,hw1⟩ i2 (by omega) i3
    rw[if_pos ⟨h5,h6⟩]
    simp only[Th.s,Th.l,nthH_zero]
    rw[hje']
    generalize ev F g (nthT (x::ys) (j+1)) (w::env) st1 out1=r3 at hsp3 ⊢
    rw[hje] at d2
    rw[hje]
    simp only[go_sem,stB,d2,w4,Int.natCast_nonneg,Int.toNat_natCast,hx,List.map_cons,List.map_nil]
    iterate 8 (try (refine ⟨by kernel_rfl,?_⟩))
    refine aCall_intro (with_spec env w hel) ?_
    simp only[go_sem,stB]
    iterate 8 (try (refine ⟨by kernel_rfl,?_⟩))
    refine aCall_res (hsp3 _) ?_
    cases r3 with
    |bad op3 m3 st3 out3=>
     simp only[go_sem,stB,encS_ok,encS_bad,finT_def]
     exact ⟨_,rfl⟩
    |ok w st3 out3=>
     simp only[go_sem,stB,encS_ok,encS_bad,finT_def]
     exact ⟨_,rfl⟩
   ·have d2:decide (findS names s9 0≥0)=false:=decide_eq_false h6
    rw[if_neg (fun e=>h6 e.2)]
    simp only[go_sem,stB,d2]
    refine aCall_res (stop_spec _ F st1 out1 4 0 0) ?_
    simp only[go_sem,stB,encS_ok,encS_bad,finT_def]
    exact ⟨_,rfl⟩
  ·have d1:(op9==4)=false:=by rw[beq_eq_false_iff_ne];exact h5
   rw[if_neg (fun e=>h5 e.1)]
   simp only[go_sem,stB,d1]
   refine aCall_res (stop_spec _ F st1 out1 4 0 0) ?_
   simp only[go_sem,stB,encS_ok,encS_bad,finT_def]
   exact ⟨_,rfl⟩
end Go.Abs.Kon
namespace Go.Abs.Kon
open Go Go.Proofs Go.Abs
set_option maxRecDepth 100000
set_option maxHeartbeats 400000
def accW:List Th→SC
 | []=>.nilS
 |v::r=>.own 296 (.agg 25) ((v::r).map encW)
def tkW:List Th→Nat
 | []=>0
 |_::_=>292
theorem accW_nil:accW []=.nilS:=rfl
theorem accW_cons (v:Th) (r:List Th):accW (v::r)=.own 296 (.agg 25) (encW v::r.map encW):=rfl
theorem tkW_nil:tkW []=0:=rfl
theorem tkW_cons (v:Th) (r:List Th):tkW (v::r)=292:=rfl
def LpI (F g st:Nat) (R:Ev) (ek:List TermT→List Th→Nat→List ByteArray→Ev) (rest:List TermT) (acc:List Th) (st1:Nat) (out1:List ByteArray) (e m:Int):Prop:=
 (e=0∧m=0∧ek rest acc st1 out1=R∧okHs acc∧wHs (2*st1) acc∧st≤st1∧st1≤F∧F - st1<g∧out1.length≤1000)∨(e≠0∧R=.bad e m st1 out1)
theorem rval_10 (F g st:Nat) (hst:st≠F) (hF:F≤2000000) (hs:st≤F) (n:Int) (s:ByteArray) (con to:ConT) (k:List KindT) (names:List ByteArray) (l:List TermT) (env:List Th) (out:List ByteArray) (T':Nat) (ih:RvS F g) (h:evOK (.mk 10 n s con to k names l) env) (he:env.length≤2*st) (hw:wHs (2*st) env) (hg:F - st<g+1) (ho:out.length≤1000) (hlen:l.length≤1000000000) :
  SpecR Tryz.prog 38 [.one (.ptr (.ref 0) 0),pp (encT (.mk 10 n s con to k names l)),pp (.slice (env.map encW).reverse)] [stB 0 F st out 0 0] (encS F T' (ev F (g+1) (.mk 10 n s con to k names l) env st out)):=by
 have hr:ev F (g+1) (.mk 10 n s con to k names l) env st out=evs (fun x st out=>ev F g x env st out) (fun vs st out=>.ok (recH names vs) st out) l [] (st+1) out:=by rw[ev,if_neg hst];rfl
 rw[hr]
 have hparts:∀x∈l,evOK x env:=by
  intro x hx
  obtain ⟨i,hi,rfl⟩:=List.mem_iff_getElem.1 hx
  have:=part_ok h hi (insT_0 (by first|exact .inl rfl|exact .inr rfl) i)
  have e:nthT l i=l[i]:=by rw[nthT,List.getD_eq_getElem?_getD,List.getElem?_eq_getElem hi];rfl
  exact e ▸ this
 generalize hR:evs (fun x st out=>ev F g x env st out) (fun vs st out=>.ok (recH names vs) st out) l [] (st+1) out=R
 have w1:=w_succ (show st≤2000000 by omega)
 have e1:=st_ne hst
 refine wS (rv:=[.cell 6 83]) ann38 307 Tryz.func38 ?_
 simp only[go_sem,stB,encT_mk,w1,e1]
 refine aLoop_list (α:=TermT) (β:=List Th×Nat×List ByteArray×Int×Int) (fun rest b=>⟨[(8,ii b.1.length),(2,pp (.slice (env.map encW).reverse)),(4,pp (.ep (.agg [.int .i64 10,.int .i64 n,.str s,.int .i64 con.op,.int .i64 con.n,.str con.s,.slice (con.k.map encK),.slice (con.names.map .str),.slice (con.l.map encC),
   .int .i64 to.op,.int .i64 to.n,.str to.s,.slice (to.k.map encK),.slice (to.names.map .str),.slice (to.l.map encC),.slice (k.map encK),.slice (names.map .str),.slice (l.map encT)]) 0)),(0,.one (.ptr (.ref 0) 0)),(7,.one (accW b.1)),(6,.one (.ptr (.loc 6) 0))],
   [(.ref 0,stB (tkW b.1) F b.2.1 b.2.2.1 b.2.2.2.1 b.2.2.2.2),(.loc 6,⟨.agg 25,.agg [.pv (.int .i64 0),.pv (.int .i64 0),.pv (.str ByteArray.empty),.nilS,.nilS,.pv (.int .i64 0),.pv (.int .i64 0),.pv (.str ByteArray.empty),.pv (.int .i64 0),.pv (.int .i64 0),.pv (.str ByteArray.empty),.nilS,.nilS,.nilS,.pv (.int .i64 0),.pv (.int .i64 0),.pv (.str ByteArray.empty),.nilS,.nilS,.nilS,.nilS,.nilS,.nilS,.nilS,.pv (.bool false)]⟩)],[]⟩)
  (fun rest b=>(∃pre,l=pre++rest∧b.1.length=pre.length)∧LpI F g (st+1) R (evs (fun x st out=>ev F g x env st out) (fun vs st out=>.ok (recH names vs) st out)) rest b.1 b.2.1 b.2.2.1 b.2.2.2.1 b.2.2.2.2) ?_ ?_ l ([],st+1,out,0,0) _ ?_ ⟨⟨[],rfl,rfl⟩,.inl ⟨rfl,rfl,hR,trivial,trivial,Nat.le_refl _,by show st+1≤F;omega,by show F - (st+1)<g;omega,ho⟩⟩
 ·rintro ⟨vs,st1,out1,e,m⟩ ⟨⟨pre,g2,g3⟩,gI⟩ K
  simp only at g3 gI
  rw[List.append_nil] at g2
  subst g2
  have d0:decide ((vs.length:Int)<(l.length:Int))=false:=by rw[g3];exact lt_false (Int.le_refl _)
  rcases gI with ⟨rfl,rfl,g1,g4,gw,g5,g6,g7,g8⟩|⟨he,rfl⟩
  ·rw[evs] at g1
   subst g1
   cases vs with
   |nil=>
    simp only[List.length_nil] at d0
    simp only[go_sem,List.length_map,List.length_nil,d0,accW_nil,tkW_nil,stB,encS_ok,finT_def,recH,encW_simple,List.map_nil]
    exact ⟨_,rfl⟩
   |cons v0 vr=>
    simp only[List.length_cons] at d0
    simp only[go_sem,List.length_map,List.length_cons,d0,accW_cons,tkW_cons,stB,encS_ok,finT_def,recH,encW_simple,List.map_cons]
    exact ⟨_,rfl⟩
  ·have d1:(e != 0)=true:=by simp[he]
   cases vs with
   |nil=>
    simp only[List.length_nil] at d0
    simp only[go_sem,List.length_map,List.length_nil,d0,d1,accW_nil,tkW_nil,stB,encS_bad,finT_def,encW_z,encW_simple,List.map_nil]
    exact ⟨_,rfl⟩
   |cons v0 vr=>
    simp only[List.length_cons] at d0
    simp only[go_sem,List.length_map,List.length_cons,d0,d1,accW_cons,tkW_cons,stB,encS_bad,finT_def,encW_z,encW_simple,List.map_nil]
    exact ⟨_,rfl⟩
 ·rintro x rest ⟨vs,st1,out1,e,m⟩ ⟨⟨pre,g2,g3⟩,gI⟩ K hK
  simp only at g3 gI
  have hx:(l.map encT)[vs.length]? = some (encT x):=by rw[g2,g3];simp
  have hlt:decide ((vs.length:Int)<(l.length:Int))=true:=decide_eq_true (by rw[g2,g3];simp;omega)
  have hvl:vs.length<l.length:=by rw[g2,g3];simp
  have w4:IntKind.i64.wrap ((vs.length:Int)+1)=((vs.length+1:Nat):Int):=by rw[wrapI (by omega) (by omega)];simp
  have hxk:=hparts x (by rw[g2];simp)
  -- what the part yields, and what holds behind it
  obtain ⟨v,st2,out2,e2,m2,hcall,hnext⟩:∃(v:Th) (st2:Nat) (out2:List ByteArray) (e2 m2:Int),(∀T,SpecR Tryz.prog 38 [.one (.ptr (.ref 0) 0),pp (encT x),pp (.slice (env.map encW).reverse)] [stB T F st1 out1 e m] (.ret (encW v) [stB 0 F st2 out2 e2 m2]))∧LpI F g (st+1) R (evs (fun x st out=>ev F g x env st out) (fun vs st out=>.ok (recH names vs) st out)) rest (vs++[v]) st2 out2 e2 m2:=by
   rcases gI with ⟨rfl,rfl,g1,g4,gw,g5,g6,g7,g8⟩|⟨he',rfl⟩
   ·rw[evs] at g1
    have hI:=evI_ev F g x env st1 out1 hxk g6 g7 g8
    have hV:=ev_W F g x env st1 out1 (by omega) (wHs_mono (by omega) hw)
    have hsp:=fun T=>ih x env st1 out1 T 0 hxk (by omega) (wHs_mono (by omega) hw) g6 g7 g8
    generalize ev F g x env st1 out1=r1 at hI hV hsp g1
    cases r1 with
    |bad op1 m1 st2 out2=>exact ⟨zeroH,st2,out2,op1,m1,hsp,.inr ⟨hI.1,g1.symm⟩⟩
    |ok v st2 out2=>exact ⟨v,st2,out2,0,0,hsp,.inl ⟨rfl,rfl,g1,okHs_app g4 hI.1,wHs_app (wHs_mono (by have:=hV.1;omega) gw) hV.2,Nat.le_trans g5 hV.1,hI.2.2.1,by have:=hV.1;omega,hI.2.2.2⟩⟩
   ·exact ⟨zeroH,st1,out1,e,m,fun T=>eval_stopped T F st1 out1 e m he' x _ 0,.inr ⟨he',rfl⟩⟩
  cases vs with
  |nil=>
   simp only[List.length_nil] at hx hlt w4
   simp only[go_sem,List.length_map,List.length_nil,hlt,hx,accW_nil,tkW_nil,stB]
   refine aCall_res (hcall _) ?_
   simp only[go_sem,stB,le_mx,w4]
   refine hK ([v],st2,out2,e2,m2) _ ?_ ⟨⟨pre++[x],by rw[g2];simp,by rw[List.length_append,←g3];rfl⟩,hnext⟩
   simp only[go_sem,accW_cons,tkW_cons,stB,List.length_cons,List.length_nil,List.map_nil]
  |cons v0 vr=>
   have e1:((vr.length+1+1)*424≤140737488355328)=True:=by simp at hvl ⊢;omega
   have e2':(vr.length+1+1≤maxLen)=True:=by rw[maxLen_eq];simp at hvl ⊢;omega
   simp only[List.length_cons] at hx hlt w4
   simp only[go_sem,List.length_map,List.length_cons,hlt,hx,accW_cons,tkW_cons,stB]
   refine aCall_res (hcall _) ?_
   simp only[go_sem,stB,e1,e2',List.length_map,w4]
   refine hK (v0::vr++[v],st2,out2,e2,m2) _ ?_ ⟨⟨pre++[x],by rw[g2];simp,by simp at g3 ⊢;omega⟩,hnext⟩
   simp only[go_sem,accW_cons,tkW_cons,stB,List.map_append,List.length_append,List.cons_append,List.length_cons,List.length_nil,List.map_cons,List.map_nil]
 ·simp only[go_sem,accW_nil,tkW_nil,stB,List.length_nil,Int.natCast_zero]
theorem rval_18 (F g st:Nat) (hst:st≠F) (hF:F≤2000000) (hs:st≤F) (n:Int) (s:ByteArray) (con to:ConT) (k:List KindT) (names:List ByteArray) (l:List TermT) (env:List Th) (out:List ByteArray) (T':Nat) (ih:RvS F g) (h:evOK (.mk 18 n s con to k names l) env) (he:env.length≤2*st) (hw:wHs (2*st) env) (hg:F - st<g+1) (ho:out.length≤1000) (hlen:l.length≤1000000000) :
  SpecR Tryz.prog 38 [.one (.ptr (.ref 0) 0),pp (encT (.mk 18 n s con to k names l)),pp (.slice (env.map encW).reverse)] [stB 0 F st out 0 0] (encS F T' (ev F (g+1) (.mk 18 n s con to k names l) env st out)):=by
 have hr:ev F (g+1) (.mk 18 n s con to k names l) env st out=evs (fun x st out=>ev F g x env st out) (fun vs st out=>primE n vs st out) l [] (st+1) out:=by rw[ev,if_neg hst];rfl
 rw[hr]
 have hparts:∀x∈l,evOK x env:=by
  intro x hx
  obtain ⟨i,hi,rfl⟩:=List.mem_iff_getElem.1 hx
  have:=part_ok h hi (insT_0 (by first|exact .inl rfl|exact .inr rfl) i)
  have e:nthT l i=l[i]:=by rw[nthT,List.getD_eq_getElem?_getD,List.getElem?_eq_getElem hi];rfl
  exact e ▸ this
 generalize hR:evs (fun x st out=>ev F g x env st out) (fun vs st out=>primE n vs st out) l [] (st+1) out=R
 have w1:=w_succ (show st≤2000000 by omega)
 have e1:=st_ne hst
 refine wS (rv:=[.cell 6 83]) ann38 307 Tryz.func38 ?_
 simp only[go_sem,stB,encT_mk,w1,e1]
 refine aLoop_list (α:=TermT) (β:=List Th×Nat×List ByteArray×Int×Int) (fun rest b=>⟨[(8,ii b.1.length),(2,pp (.slice (env.map encW).reverse)),(4,pp (.ep (.agg [.int .i64 18,.int .i64 n,.str s,.int .i64 con.op,.int .i64 con.n,.str con.s,.slice (con.k.map encK),.slice (con.names.map .str),.slice (con.l.map encC),
   .int .i64 to.op,.int .i64 to.n,.str to.s,.slice (to.k.map encK),.slice (to.names.map .str),.slice (to.l.map encC),.slice (k.map encK),.slice (names.map .str),.slice (l.map encT)]) 0)),(0,.one (.ptr (.ref 0) 0)),(7,.one (accW b.1)),(6,.one (.ptr (.loc 6) 0))],
   [(.ref 0,stB (tkW b.1) F b.2.1 b.2.2.1 b.2.2.2.1 b.2.2.2.2),(.loc 6,⟨.agg 25,.agg [.pv (.int .i64 0),.pv (.int .i64 0),.pv (.str ByteArray.empty),.nilS,.nilS,.pv (.int .i64 0),.pv (.int .i64 0),.pv (.str ByteArray.empty),.pv (.int .i64 0),.pv (.int .i64 0),.pv (.str ByteArray.empty),.nilS,.nilS,.nilS,.pv (.int .i64 0),.pv (.int .i64 0),.pv (.str ByteArray.empty),.nilS,.nilS,.nilS,.nilS,.nilS,.nilS,.nilS,.pv (.bool false)]⟩)],[]⟩)
  (fun rest b=>(∃pre,l=pre++rest∧b.1.length=pre.length)∧LpI F g (st+1) R (evs (fun x st out=>ev F g x env st out) (fun vs st out=>primE n vs st out)) rest b.1 b.2.1 b.2.2.1 b.2.2.2.1 b.2.2.2.2) ?_ ?_ l ([],st+1,out,0,0) _ ?_ ⟨⟨[],rfl,rfl⟩,.inl ⟨rfl,rfl,hR,trivial,trivial,Nat.le_refl _,by show st+1≤F;omega,by show F - (st+1)<g;omega,ho⟩⟩
 ·rintro ⟨vs,st1,out1,e,m⟩ ⟨⟨pre,g2,g3⟩,gI⟩ K
  simp only at g3 gI
  rw[List.append_nil] at g2
  subst g2
  have d0:decide ((vs.length:Int)<(l.length:Int))=false:=by rw[g3];exact lt_false (Int.le_refl _)
  rcases gI with ⟨rfl,rfl,g1,g4,gw,g5,g6,g7,g8⟩|⟨he,rfl⟩
  ·rw[evs] at g1
   subst g1
   have hn1:1≤n∧n≤14:=by
    have:numT 18 n=true:=(wf_node h.1).2.2.1
    rw[numT,if_neg (by decide),if_neg (by decide),if_pos rfl,Bool.and_eq_true,decide_eq_true_iff,decide_eq_true_iff] at this
    omega
   have hll:vs.length=(opsP n).1:=by
    have h5:=(wf_node h.1).2.1
    have h6:(l.length:Int)=arityF n:=h5
    have h7:=opsP_arity hn1.1 hn1.2
    omega
   have hfit:=Fit_spec n hn1.1 hn1.2 vs hll
   have hsp:=fun T hv=>rprimS_spec T F st1 out1 n vs hn1.1 hn1.2 hll hv g8 0
   cases vs with
   |nil=>
    exfalso
    have h7:=opsP_arity hn1.1 hn1.2
    have:=arityF_le n
    rw[←hll] at h7
    simp at h7
    omega
   |cons v0 vr=>
    simp only[List.length_cons] at d0
    simp only[go_sem,List.length_map,List.length_cons,d0,accW_cons,tkW_cons,stB]
    refine aCall_intro hfit ?_
    cases hany:(v0::vr).any (fun v=>v.op != kindP n) with
    |true=>
     have hb:primE n (v0::vr) st1 out1=.bad 4 0 st1 out1:=by rw[primE,if_pos hany]
     rw[hb]
     simp only[go_sem,stB,Bool.not_true,Bool.not_false]
     refine aCall_res (stop_spec _ F st1 out1 4 0 0) ?_
     simp only[go_sem,stB,encS_bad,finT_def]
     exact ⟨_,rfl⟩
    |false=>
     rw[primE_S hany]
     have hv:∀v∈v0::vr,okV v:=fun v hv=>okV_of g4 v hv hany
     simp only[go_sem,stB,Bool.not_true,Bool.not_false]
     generalize primS n (v0::vr) st1 out1=r3 at hsp ⊢
     refine aCall_res (hsp _ hv) ?_
     cases r3 with
     |bad op3 m3 st3 out3=>simp only[go_sem,stB,encS_bad,finT_def];exact ⟨_,rfl⟩
     |ok w st3 out3=>simp only[go_sem,stB,encS_ok,finT_def];exact ⟨_,rfl⟩
  ·have d1:(e != 0)=true:=by simp[he]
   cases vs with
   |nil=>
    simp only[List.length_nil] at d0
    simp only[go_sem,List.length_map,List.length_nil,d0,d1,accW_nil,tkW_nil,stB,encS_bad,finT_def,encW_z,encW_simple,List.map_nil]
    exact ⟨_,rfl⟩
   |cons v0 vr=>
    simp only[List.length_cons] at d0
    simp only[go_sem,List.length_map,List.length_cons,d0,d1,accW_cons,tkW_cons,stB,encS_bad,finT_def,encW_z,encW_simple,List.map_nil]
    exact ⟨_,rfl⟩
 ·rintro x rest ⟨vs,st1,out1,e,m⟩ ⟨⟨pre,g2,g3⟩,gI⟩ K hK
  simp only at g3 gI
  have hx:(l.map encT)[vs.length]? = some (encT x):=by rw[g2,g3];simp
  have hlt:decide ((vs.length:Int)<(l.length:Int))=true:=decide_eq_true (by rw[g2,g3];simp;omega)
  have hvl:vs.length<l.length:=by rw[g2,g3];simp
  have w4:IntKind.i64.wrap ((vs.length:Int)+1)=((vs.length+1:Nat):Int):=by rw[wrapI (by omega) (by omega)];simp
  have hxk:=hparts x (by rw[g2];simp)
  -- what the part yields, and what holds behind it
  obtain ⟨v,st2,out2,e2,m2,hcall,hnext⟩:∃(v:Th) (st2:Nat) (out2:List ByteArray) (e2 m2:Int),(∀T,SpecR Tryz.prog 38 [.one (.ptr (.ref 0) 0),pp (encT x),pp (.slice (env.map encW).reverse)] [stB T F st1 out1 e m] (.ret (encW v) [stB 0 F st2 out2 e2 m2]))∧LpI F g (st+1) R (evs (fun x st out=>ev F g x env st out) (fun vs st out=>primE n vs st out)) rest (vs++[v]) st2 out2 e2 m2:=by
   rcases gI with ⟨rfl,rfl,g1,g4,gw,g5,g6,g7,g8⟩|⟨he',rfl⟩
   ·rw[evs] at g1
    have hI:=evI_ev F g x env st1 out1 hxk g6 g7 g8
    have hV:=ev_W F g x env st1 out1 (by omega) (wHs_mono (by omega) hw)
    have hsp:=fun T=>ih x env st1 out1 T 0 hxk (by omega) (wHs_mono (by omega) hw) g6 g7 g8
    generalize ev F g x env st1 out1=r1 at hI hV hsp g1
    cases r1 with
    |bad op1 m1 st2 out2=>exact ⟨zeroH,st2,out2,op1,m1,hsp,.inr ⟨hI.1,g1.symm⟩⟩
    |ok v st2 out2=>exact ⟨v,st2,out2,0,0,hsp,.inl ⟨rfl,rfl,g1,okHs_app g4 hI.1,wHs_app (wHs_mono (by have:=hV.1;omega) gw) hV.2,Nat.le_trans g5 hV.1,hI.2.2.1,by have:=hV.1;omega,hI.2.2.2⟩⟩
   ·exact ⟨zeroH,st1,out1,e,m,fun T=>eval_stopped T F st1 out1 e m he' x _ 0,.inr ⟨he',rfl⟩⟩
  cases vs with
  |nil=>
   simp only[List.length_nil] at hx hlt w4
   simp only[go_sem,List.length_map,List.length_nil,hlt,hx,accW_nil,tkW_nil,stB]
   refine aCall_res (hcall _) ?_
   simp only[go_sem,stB,le_mx,w4]
   refine hK ([v],st2,out2,e2,m2) _ ?_ ⟨⟨pre++[x],by rw[g2];simp,by rw[List.length_append,←g3];rfl⟩,hnext⟩
   simp only[go_sem,accW_cons,tkW_cons,stB,List.length_cons,List.length_nil,List.map_nil]
  |cons v0 vr=>
   have e1:((vr.length+1+1)*424≤140737488355328)=True:=by simp at hvl ⊢;omega
   have e2':(vr.length+1+1≤maxLen)=True:=by rw[maxLen_eq];simp at hvl ⊢;omega
   simp only[List.length_cons] at hx hlt w4
   simp only[go_sem,List.length_map,List.length_cons,hlt,hx,accW_cons,tkW_cons,stB]
   refine aCall_res (hcall _) ?_
   simp only[go_sem,stB,e1,e2',List.length_map,w4]
   refine hK (v0::vr++[v],st2,out2,e2,m2) _ ?_ ⟨⟨pre++[x],by rw[g2];simp,by simp at g3 ⊢;omega⟩,hnext⟩
   simp only[go_sem,accW_cons,tkW_cons,stB,List.map_append,List.length_append,List.cons_append,List.length_cons,List.length_nil,List.map_cons,List.map_nil]
 ·simp only[go_sem,accW_nil,tkW_nil,stB,List.length_nil,Int.natCast_zero]
end Go.Abs.Kon
namespace Go.Abs.Kon
open Go Go.Proofs Go.Abs
set_option maxRecDepth 100000
set_option maxHeartbeats 1000000
theorem rval_step {F g:Nat}(hF:F≤2000000) (ih:RvS F g):RvS F (g+1):=by
 intro t env st out T T' h he hw hs hg ho
 refine SpecR.st_in T rfl ?_
 by_cases hst:st=F
 ·subst hst;exact rval_out st g t env out T'
 have hel:env.length≤1000000000:=by omega
 obtain ⟨h1,h2⟩:=(wf_node h.1).1
 have hsc:=(sc_def h.2.1).1
 have hnum:=(wf_node h.1).2.2.1
 have hp1:=parts_one h.1
 have hp2:=parts_two h.1
 have hp13:=parts_case h.1
 have hp10:=parts_rec h.1
 have hp18:=(wf_node h.1).2.1
 have hnl:=node_names h.1
 cases t with
 |mk op n s con to k names l=>
  simp only[TermT.op,TermT.n,TermT.l,TermT.names] at h1 h2 hsc hnum hp1 hp2 hp13 hp10 hp18 hnl
  have hop:op=1∨op=2∨op=3∨op=4∨op=5∨op=6∨op=7∨op=8∨op=9∨op=10∨op=11∨op=12∨op=13∨op=14∨op=15∨op=16∨op=17∨op=18∨op=19:=by omega
  have one:l.length=1→∃x,l=[x]:=fun e=>by
   match l,e with
   | [x],_=>exact ⟨x,rfl⟩
  have two:l.length=2→∃x y,l=[x,y]:=fun e=>by
   match l,e with
   | [x,y],_=>exact ⟨x,y,rfl⟩
  rcases hop with rfl|rfl|rfl|rfl|rfl|rfl|rfl|rfl|rfl|rfl|rfl|rfl|rfl|rfl|rfl|rfl|rfl|rfl|rfl
  ·rw[numT,if_pos rfl,Bool.and_eq_true,decide_eq_true_iff,decide_eq_true_iff] at hnum
   exact rval_1 F g st hst hF hs n s con to k names l env out T' hnum.1 (hsc rfl) hel
  ·exact rval_2 F g st hst hF hs n s con to k names l env out T'
  ·exact rval_3 F g st hst hF hs n s con to k names l env out T'
  ·exact rval_4 F g st hst hF hs n s con to k names l env out T'
  ·obtain ⟨x,y,rfl⟩:=two (hp2 (.inl rfl));exact rval_5 F g st hst hF hs n s con to k names x y env out T' ih h he hw hg ho
  ·exact rval_6 F g st hst hF hs n s con to k names l env out T'
  ·obtain ⟨x,rfl⟩:=one (hp1 (by decide));exact rval_7 F g st hst hF hs n s con to k names x env out T' ih h he hw hg ho
  ·obtain ⟨x,rfl⟩:=one (hp1 (by decide));exact rval_8 F g st hst hF hs n s con to k names x env out T' ih h he hw hg ho
  ·obtain ⟨x,y,rfl⟩:=two (hp2 (by decide));exact rval_9 F g st hst hF hs n s con to k names x y env out T' ih h he hw hg ho
  ·exact rval_10 F g st hst hF hs n s con to k names l env out T' ih h he hw hg ho (by have:=hp10 rfl;omega)
  ·obtain ⟨x,rfl⟩:=one (hp1 (by decide));exact rval_11 F g st hst hF hs n s con to k names x env out T' ih h he hw hg ho
  ·obtain ⟨x,rfl⟩:=one (hp1 (by decide));exact rval_12 F g st hst hF hs n s con to k names x env out T' ih h he hw hg ho
  ·have h13:=hp13 rfl
   obtain ⟨x,ys,rfl⟩:∃x ys,l=x::ys:=by
    match l,h13 with
    |x::ys,_=>exact ⟨x,ys,rfl⟩
   exact rval_13 F g st hst hF hs n s con to k names x ys env out T' ih h he hw hg ho
  ·obtain ⟨x,rfl⟩:=one (hp1 (by decide));exact rval_14 F g st hst hF hs n s con to k names x env out T' ih h he hw hg ho
  ·obtain ⟨x,rfl⟩:=one (hp1 (by decide));exact rval_15 F g st hst hF hs n s con to k names x env out T' ih h he hw hg ho
  ·obtain ⟨x,rfl⟩:=one (hp1 (by decide))
   cases x with
   |mk op2 n2 s2 con2 to2 k2 names2 l2=>
    by_cases h4:op2=4∨op2=6
    ·by_cases h5:st+1=F
     ·rcases h4 with rfl|rfl
      ·exact rval_16out4 F g st hst hF hs n s con to k names n2 s2 con2 to2 k2 names2 l2 env out T' h5
      ·exact rval_16out6 F g st hst hF hs n s con to k names n2 s2 con2 to2 k2 names2 l2 env out T' h5
     ·rcases h4 with rfl|rfl
      ·exact rval_16ok4 F g st hst hF hs n s con to k names n2 s2 con2 to2 k2 names2 l2 env out T' h5
      ·exact rval_16ok6 F g st hst hF hs n s con to k names n2 s2 con2 to2 k2 names2 l2 env out T' h5
    ·exact rval_16bad F g st hst hF hs n s con to k names op2 n2 s2 con2 to2 k2 names2 l2 env out T' h4
  ·obtain ⟨x,y,rfl⟩:=two (hp2 (by decide));exact rval_17 F g st hst hF hs n s con to k names x y env out T' ih h he hw hg ho
  ·exact rval_18 F g st hst hF hs n s con to k names l env out T' ih h he hw hg ho (by
    have:partsT 18 n names.length=arityF n:=rfl
    have:=arityF_le n
    omega)
  ·exact rval_19 F g st hst hF hs n s con to k names l env out T'
theorem rval_spec {F:Nat}(hF:F≤2000000):∀g,RvS F g
 | 0=>fun t env st out T T' h he hw hs hg=>by omega
 |g+1=>rval_step hF (rval_spec hF g)
end Go.Abs.Kon