/- Terms as trees. -/
import Derived.Test.YtafhcphggdipaaaGreatDoorKonF
import Derived.Lib.SlicesCompact
set_option linter.unusedSimpArgs false
set_option linter.unusedVariables false
namespace Go.Abs.Kon
open Go Go.Proofs Go.Abs
set_option maxRecDepth 100000
set_option maxHeartbeats 4000000
inductive TermT where
 |mk (op n:Int) (s:ByteArray) (con to:ConT) (k:List KindT) (names:List ByteArray) (l:List TermT)
def ConT.cells (c:ConT):List PV:=[.int .i64 c.op,.int .i64 c.n,.str c.s,.slice (c.k.map encK),.slice (c.names.map .str),.slice (c.l.map encC)]
theorem encC_eta (c:ConT):PV.agg [.int .i64 c.op,.int .i64 c.n,.str c.s,.slice (c.k.map encK),.slice (c.names.map .str),.slice (c.l.map encC)]=encC c:=by cases c;rw[encC_mk];rfl
theorem encC_cells (c:ConT):encC c=.agg c.cells:=by rw[ConT.cells,encC_eta]
mutual
def encT:TermT→PV
 | .mk op n s con to k names l=>.agg [.int .i64 op,.int .i64 n,.str s,.int .i64 con.op,.int .i64 con.n,.str con.s,.slice (con.k.map encK),.slice (con.names.map .str),.slice (con.l.map encC),
   .int .i64 to.op,.int .i64 to.n,.str to.s,.slice (to.k.map encK),.slice (to.names.map .str),.slice (to.l.map encC),.slice (k.map encK),.slice (names.map .str),.slice (encTs l)]
def encTs:List TermT→List PV
 | []=>[]
 |c::l=>encT c::encTs l
end
theorem encTs_map:∀l,encTs l=l.map encT
 | []=>rfl
 |c::l=>by simp[encTs,encTs_map l]
theorem encT_mk (op n:Int) (s:ByteArray) (con to:ConT) (k:List KindT) (names:List ByteArray) (l:List TermT):encT (.mk op n s con to k names l) =
  .agg [.int .i64 op,.int .i64 n,.str s,.int .i64 con.op,.int .i64 con.n,.str con.s,.slice (con.k.map encK),.slice (con.names.map .str),.slice (con.l.map encC),
   .int .i64 to.op,.int .i64 to.n,.str to.s,.slice (to.k.map encK),.slice (to.names.map .str),.slice (to.l.map encC),.slice (k.map encK),.slice (names.map .str),.slice (l.map encT)]:=by rw[encT,encTs_map]
@[go_sem] theorem encT_sz (c:TermT):PV.hasSz (.agg 18) (encT c)=true:=by cases c;rfl
mutual
theorem TermT.ind1 {M:TermT→Prop}(h:∀op n s con to k names l,(∀x∈l,M x)→M (.mk op n s con to k names l)):∀c,M c
 | .mk op n s con to k names l=>h op n s con to k names l (TermT.ind2 h l)
theorem TermT.ind2 {M:TermT→Prop}(h:∀op n s con to k names l,(∀x∈l,M x)→M (.mk op n s con to k names l)):∀l:List TermT,∀x∈l,M x
 | [],_,hx=>absurd hx (by simp)
 |c::l,x,hx=>(List.mem_cons.1 hx).elim (fun e=>e ▸ TermT.ind1 h c) (fun hx=>TermT.ind2 h l x hx)
end
def TermT.op:TermT→Int | .mk op _ _ _ _ _ _ _=>op
def TermT.n:TermT→Int | .mk _ n _ _ _ _ _ _=>n
def TermT.s:TermT→ByteArray | .mk _ _ s _ _ _ _ _=>s
def TermT.con:TermT→ConT | .mk _ _ _ c _ _ _ _=>c
def TermT.to:TermT→ConT | .mk _ _ _ _ c _ _ _=>c
def TermT.k:TermT→List KindT | .mk _ _ _ _ _ k _ _=>k
def TermT.names:TermT→List ByteArray | .mk _ _ _ _ _ _ ns _=>ns
def TermT.l:TermT→List TermT | .mk _ _ _ _ _ _ _ l=>l
/-! The kinds of nodes -/
def arityF (n:Int):Int:=if n=6∨n=11∨n=13∨n=14 then 1 else 2
theorem tarity_spec (n:Int):Spec Tryz.prog 200 [ii n] [] (.int .i64 (arityF n)) []:=by
 refine wk (rv:=[.tmp 2]) ann200 9 Tryz.func200 ?_
 simp only[go_sem]
 repeat' ((first|refine condK_intro (fun _=>?_) (fun _=>?_)|refine guardK_intro (fun _=>?_) (fun _=>?_))<;>simp only[go_sem,List.length_map])
 all_goals (simp only[arityF];simp_all)
def hasConF (op:Int):Bool:=op==4||op==7||op==8||op==12||op==14||op==16||op==19
theorem thasCon_spec (n:Int):Spec Tryz.prog 104 [ii n] [] (.bool (hasConF n)) []:=by
 refine wk (rv:=[.tmp 2]) ann104 12 Tryz.func104 ?_
 simp only[go_sem]
 repeat' ((first|refine condK_intro (fun _=>?_) (fun _=>?_)|refine guardK_intro (fun _=>?_) (fun _=>?_))<;>simp only[go_sem,List.length_map])
 all_goals (simp only[hasConF];simp_all)
theorem rHasCon_spec (n:Int):Spec Tryz.prog 93 [ii n] [] (.bool (hasConF n)) []:=by
 refine wk (rv:=[.tmp 2]) ann93 12 Tryz.func93 ?_
 simp only[go_sem]
 repeat' ((first|refine condK_intro (fun _=>?_) (fun _=>?_)|refine guardK_intro (fun _=>?_) (fun _=>?_))<;>simp only[go_sem,List.length_map])
 all_goals (simp only[hasConF];simp_all)
end Go.Abs.Kon
namespace Go.Abs.Kon
open Go Go.Proofs Go.Abs
set_option maxRecDepth 100000
set_option maxHeartbeats 4000000
def zeroT:TermT:=.mk 0 0 ByteArray.empty zeroC zeroC [] [] []
def numT (op n:Int):Bool:=if op=1 then decide (n≥0)&&decide (n≤20000) else if op=2 then decide (n≥-4503599627370496)&&decide (n≤4503599627370496) else if op=18 then decide (n≥1)&&decide (n≤14) else if op=19 then decide (n≥1)&&decide (n≤1000000) else n==0
def textT (op:Int) (s:ByteArray):Bool:=if op=3 then decide ((s.size:Int)≤16384) else if op=11∨op=12 then labelF s else strEq s ByteArray.empty
def namesT (op:Int) (names:List ByteArray):Bool:=if op≠10∧op≠13 then decide (names.length=0) else if (op=13∧names.length=0)∨names.length>1000 then false else ascF names&&!names.any (fun s=>!labelF s)
def partsT (op n:Int) (nl:Nat):Int:=
 if op=1∨op=2∨op=3∨op=19 then 0 else if op=4∨op=6∨op=7∨op=8∨op=11∨op=12∨op=14∨op=15∨op=16 then 1 else
 if op=5∨op=9∨op=17 then 2 else if op=10 then nl else if op=13 then nl+1 else if op=18 then arityF n else -1
def fitsC (c:ConT) (b:Bool):Bool:=if b then validF c else eqC c zeroC
def kValidF (k:List KindT):Bool:=(sizeK (.mk k) 20000 1).isSome
def nodeT (op n:Int) (s:ByteArray) (con to:ConT) (k:List KindT) (names:List ByteArray) (len:Nat):Bool:=
 decide (1≤op)&&(decide (op≤19)&&(numT op n&&(decide ((len:Int)=partsT op n names.length)&&(textT op s&&(namesT op names &&
  ((op==6&&kValidF k||decide (k.length=0))&&(fitsC con (hasConF op)&&fitsC to (op==8))))))))
mutual
def measT:TermT→Int→Int→Int×Bool
 | .mk op n s con to k names l,left,depth=>
  if left≤0∨depth>400∨nodeT op n s con to k names l.length=false then (0,false) else
  measTL l left (1+(if hasConF op then (sizeF con:Int) else 0)+(if op=8 then (sizeF to:Int) else 0)) depth
def measTL:List TermT→Int→Int→Int→Int×Bool
 | [],left,n,_=>(n,decide (n≤left))
 |x::r,left,n,depth=>if (measT x (left - n) (depth+1)).2=false then (0,false) else measTL r left (n+(measT x (left - n) (depth+1)).1) depth
end
mutual
def cntT:TermT→Int→Int→Int
 | .mk op n s con to k names l,left,depth=>
  if left<1∨depth<1∨nodeT op n s con to k names l.length=false then -1 else
  cntTL l (left - 1 - (if hasConF op then (sizeF con:Int) else 0) - (if op=8 then (sizeF to:Int) else 0)) depth
def cntTL:List TermT→Int→Int→Int
 | [],left,_=>left
 |x::r,left,depth=>if left<0 then left else cntTL r (cntT x left (depth - 1)) depth
end
def validT (t:TermT):Bool:=(measT t 20000 1).2
mutual
theorem meas_cnt:∀(t:TermT) (left depth:Int),(measT t left depth).2=decide (0≤cntT t left (401 - depth))∧((measT t left depth).2=true→(measT t left depth).1=left - cntT t left (401 - depth))
 | .mk op n s con to k names l,left,depth=>by
  rw[measT,cntT]
  by_cases h:left≤0∨depth>400∨nodeT op n s con to k names l.length=false
  ·have h':left<1∨401 - depth<1∨nodeT op n s con to k names l.length=false:=by
    rcases h with h|h|h
    ·exact .inl (by omega)
    ·exact .inr (.inl (by omega))
    ·exact .inr (.inr h)
   rw[if_pos h,if_pos h']
   exact ⟨rfl,fun h=>by cases h⟩
  ·have h':¬(left<1∨401 - depth<1∨nodeT op n s con to k names l.length=false):=by
    rintro (e|e|e)
    ·exact h (.inl (by omega))
    ·exact h (.inr (.inl (by omega)))
    ·exact h (.inr (.inr e))
   rw[if_neg h,if_neg h']
   have:=measL_cnt l left (1+(if hasConF op then (sizeF con:Int) else 0)+(if op=8 then (sizeF to:Int) else 0)) depth
   have e:left - (1+(if hasConF op then (sizeF con:Int) else 0)+(if op=8 then (sizeF to:Int) else 0))=left - 1 - (if hasConF op then (sizeF con:Int) else 0) - (if op=8 then (sizeF to:Int) else 0):=by omega
   rw[e] at this
   exact this
theorem measL_cnt:∀(l:List TermT) (left n depth:Int),(measTL l left n depth).2=decide (0≤cntTL l (left - n) (401 - depth))∧((measTL l left n depth).2=true→(measTL l left n depth).1=left - cntTL l (left - n) (401 - depth))
 | [],left,n,depth=>by
  rw[measTL,cntTL]
  exact ⟨by simp,fun _=>by simp only;omega⟩
 |x::r,left,n,depth=>by
  rw[measTL,cntTL]
  obtain ⟨h1,h2⟩:=meas_cnt x (left - n) (depth+1)
  have e:401 - (depth+1)=401 - depth - 1:=by omega
  rw[e] at h1 h2
  by_cases h0:left - n<0
  ·have:(measT x (left - n) (depth+1)).2=false:=by
    cases x;rw[measT,if_pos (.inl (by omega))]
   rw[if_pos this,if_pos h0]
   exact ⟨by simp;omega,fun h=>by cases h⟩
  ·rw[if_neg h0]
   by_cases h3:(measT x (left - n) (depth+1)).2=false
   ·rw[if_pos h3]
    have h4:cntT x (left - n) (401 - depth - 1)<0:=by rw[h3] at h1;have:=of_decide_eq_false h1.symm;omega
    have h5:cntTL r (cntT x (left - n) (401 - depth - 1)) (401 - depth)=cntT x (left - n) (401 - depth - 1):=by
     cases r with
     |nil=>rw[cntTL]
     |cons y r=>rw[cntTL,if_pos h4]
    rw[h5]
    exact ⟨by simp;omega,fun h=>by cases h⟩
   ·rw[if_neg h3]
    have h3':(measT x (left - n) (depth+1)).2=true:=by simpa using h3
    have h4:=h2 h3'
    have:=measL_cnt r left (n+(measT x (left - n) (depth+1)).1) depth
    rw[h4] at this ⊢
    have e2:left - (n+(left - n - cntT x (left - n) (401 - depth - 1)))=cntT x (left - n) (401 - depth - 1):=by omega
    rw[e2] at this
    exact this
end
theorem validT_cnt (t:TermT):validT t=decide (cntT t 20000 400≥0):=(meas_cnt t 20000 1).1
/-! How great a term is -/
mutual
def okT:TermT→Prop
 | .mk _ _ s con to k names l=>s.size≤100000000∧(sizeF con≤1000000000∧okS con)∧(sizeF to≤1000000000∧okS to)∧knL k<knL k+1∧(∀x∈names,x.size≤100000000)∧names.length≤100000000∧l.length≤1000000000∧okTs l
def okTs:List TermT→Prop
 | []=>True
 |x::r=>okT x∧okTs r
end
theorem okTs_mem:∀{l:List TermT},okTs l↔∀x∈l,okT x
 | []=>by simp[okTs]
 |x::r=>by simp[okTs,okTs_mem (l:=r)]
theorem arityF_le (n:Int):1≤arityF n∧arityF n≤2:=by rw[arityF];split<;>omega
mutual
theorem measT_le:∀(t:TermT) (left depth:Int),0≤(measT t left depth).1∧((measT t left depth).2=true→(measT t left depth).1≤left)
 | .mk op n s con to k names l,left,depth=>by
  rw[measT]
  split
  ·exact ⟨Int.le_refl _,fun h=>by cases h⟩
  ·exact measTL_le l left _ depth (by split<;>split<;>omega)
theorem measTL_le:∀(l:List TermT) (left n depth:Int),0≤n→0≤(measTL l left n depth).1∧((measTL l left n depth).2=true→(measTL l left n depth).1≤left)
 | [],left,n,depth,h=>by rw[measTL];exact ⟨h,fun h=>of_decide_eq_true h⟩
 |x::r,left,n,depth,h=>by
  rw[measTL]
  split
  ·exact ⟨Int.le_refl _,fun h=>by cases h⟩
  ·have:=measT_le x (left - n) (depth+1)
   exact measTL_le r left _ depth (by omega)
end
end Go.Abs.Kon
namespace Go.Abs.Kon
open Go Go.Proofs Go.Abs
def insU (n:Int):List Int→List Int
 | []=>[n]
 |x::r=>if n<x then n::x::r else if n=x then x::r else x::insU n r
def sortU (l:List Int):List Int:=l.foldl (fun acc x=>insU x acc) []
theorem insU_mem {n y:Int}:∀{l:List Int},y∈insU n l↔y=n∨y∈l
 | []=>by simp[insU]
 |x::r=>by
  rw[insU]
  split
  ·simp
  ·split
   ·rename_i h;subst h;simp
   ·rw[List.mem_cons,insU_mem (l:=r),List.mem_cons]
    constructor
    ·rintro (h|h|h)
     ·exact .inr (.inl h)
     ·exact .inl h
     ·exact .inr (.inr h)
    ·rintro (h|h|h)
     ·exact .inr (.inl h)
     ·exact .inl h
     ·exact .inr (.inr h)
theorem insU_asc {n:Int}:∀{l:List Int},l.Pairwise (· < ·)→(insU n l).Pairwise (· < ·)
 | [],_=>by simp[insU]
 |x::r,h=>by
  have h0:=List.pairwise_cons.1 h
  rw[insU]
  split
  ·rename_i hn
   refine List.pairwise_cons.2 ⟨fun y hy=>?_,h⟩
   rcases List.mem_cons.1 hy with rfl|hy
   ·exact hn
   ·exact Int.lt_trans hn (h0.1 y hy)
  ·split
   ·exact h
   ·rename_i h1 h2
    refine List.pairwise_cons.2 ⟨fun y hy=>?_,insU_asc h0.2⟩
    rcases insU_mem.1 hy with rfl|hy
    ·omega
    ·exact h0.1 y hy
theorem foldU_mem {y:Int}:∀(l acc:List Int),y∈l.foldl (fun acc x=>insU x acc) acc↔y∈acc∨y∈l
 | [],acc=>by simp
 |x::r,acc=>by
  rw[List.foldl_cons,foldU_mem r,insU_mem,List.mem_cons]
  constructor
  ·rintro ((h|h)|h)
   ·exact .inr (.inl h)
   ·exact .inl h
   ·exact .inr (.inr h)
  ·rintro (h|h|h)
   ·exact .inl (.inr h)
   ·exact .inl (.inl h)
   ·exact .inr h
theorem foldU_asc:∀(l acc:List Int),acc.Pairwise (· < ·)→(l.foldl (fun acc x=>insU x acc) acc).Pairwise (· < ·)
 | [],acc,h=>h
 |x::r,acc,h=>by rw[List.foldl_cons];exact foldU_asc r _ (insU_asc h)
theorem sortU_mem {y:Int}(l:List Int):y∈sortU l↔y∈l:=by rw[sortU,foldU_mem];simp
theorem sortU_asc (l:List Int):(sortU l).Pairwise (· < ·):=foldU_asc l [] List.Pairwise.nil
theorem asc_unique:∀{l m:List Int},l.Pairwise (· < ·)→m.Pairwise (· < ·)→(∀x,x∈l↔x∈m)→l=m
 | [],[],_,_,_=>rfl
 | [],y::m,_,_,h=>by have:=(h y).2 (by simp);simp at this
 |x::l,[],_,_,h=>by have:=(h x).1 (by simp);simp at this
 |x::l,y::m,h1,h2,h=>by
  have a:=List.pairwise_cons.1 h1
  have b:=List.pairwise_cons.1 h2
  have hxy:x=y:=by
   rcases List.mem_cons.1 ((h x).1 (by simp)) with e|e
   ·exact e
   ·rcases List.mem_cons.1 ((h y).2 (by simp)) with e'|e'
    ·exact e'.symm
    ·have:=a.1 y e';have:=b.1 x e;omega
  subst hxy
  have:l=m:=asc_unique a.2 b.2 fun z=>by
   have hz:=h z
   simp only[List.mem_cons] at hz
   constructor
   ·intro hm
    rcases hz.1 (.inr hm) with e|e
    ·subst e;have:=a.1 _ hm;omega
    ·exact e
   ·intro hm
    rcases hz.2 (.inr hm) with e|e
    ·subst e;have:=b.1 _ hm;omega
    ·exact e
  rw[this]
theorem sortU_unique {l m:List Int}(h:m.Pairwise (· < ·)) (hm:∀x,x∈m↔x∈l):m=sortU l:=
 asc_unique h (sortU_asc l) fun x=>by rw[hm,sortU_mem]
theorem sortU_congr {l m:List Int}(h:∀x,x∈l↔x∈m):sortU l=sortU m:=sortU_unique (sortU_asc l) fun x=>by rw[sortU_mem,h]
/-! Sorted, then compacted -/
theorem compact_up {d:Array Int}(hs:∀i j,i≤j→j<d.size→d[i]!≤d[j]!):∀m,m≤d.size→(Lib.compactUpTo d m).Pairwise (· < ·)∧∀x,x∈Lib.compactUpTo d m↔∃j,j<m∧d[j]! = x
 | 0,_=>by
  have:Lib.compactUpTo d 0=[]:=rfl
  rw[this]
  exact ⟨List.Pairwise.nil,fun x=>⟨fun h=>by simp at h,fun ⟨j,h,_⟩=>by omega⟩⟩
 |m+1,h=>by
  obtain ⟨h1,h2⟩:=compact_up hs m (by omega)
  rw[Lib.compactUpTo_succ]
  by_cases hk:Lib.keeps d m=true
  ·rw[if_pos hk]
   have hk':m=0∨d[m]!≠d[m - 1]! := by simpa [Lib.keeps] using hk
   refine ⟨List.pairwise_append.2 ⟨h1,by simp,fun a ha b hb=>?_⟩,fun x=>?_⟩
   ·rw[List.mem_singleton.1 hb]
    obtain ⟨j,hj,rfl⟩:=(h2 a).1 ha
    rcases hk' with e|e
    ·omega
    ·have a1:=hs j (m - 1) (by omega) (by omega)
     have a2:=hs (m - 1) m (by omega) (by omega)
     omega
   ·rw[List.mem_append,h2,List.mem_singleton]
    constructor
    ·rintro (⟨j,hj,e⟩|e)
     ·exact ⟨j,by omega,e⟩
     ·exact ⟨m,by omega,e.symm⟩
    ·rintro ⟨j,hj,e⟩
     by_cases hjm:j=m
     ·subst hjm;exact .inr e.symm
     ·exact .inl ⟨j,by omega,e⟩
  ·rw[if_neg hk,List.append_nil]
   have hk':¬(m=0∨d[m]!≠d[m - 1]!):=by simpa [Lib.keeps] using hk
   refine ⟨h1,fun x=>?_⟩
   rw[h2]
   constructor
   ·rintro ⟨j,hj,e⟩;exact ⟨j,by omega,e⟩
   ·rintro ⟨j,hj,e⟩
    by_cases hjm:j=m
    ·subst hjm
     have:d[j]! = d[j - 1]! := by
      by_cases e':d[j]! = d[j - 1]!
      ·exact e'
      ·exact absurd (.inr e') hk'
     exact ⟨j - 1,by omega,by rw[←this];exact e⟩
    ·exact ⟨j,by omega,e⟩
theorem sorted_get (zs:List Int):∀i j,i≤j→j<(zs.mergeSort fun x y=>decide (x≤y)).toArray.size→(zs.mergeSort fun x y=>decide (x≤y)).toArray[i]!≤(zs.mergeSort fun x y=>decide (x≤y)).toArray[j]! := by
 intro i j hij hj
 have hp:=List.pairwise_mergeSort (le:=fun x y:Int=>decide (x≤y)) (by intro a b c;simp only[decide_eq_true_iff];omega) (by intro a b;simp only[Bool.or_eq_true,decide_eq_true_iff];omega) zs
 rw[List.pairwise_iff_getElem] at hp
 have hj':j<(zs.mergeSort fun x y=>decide (x≤y)).length:=by simpa using hj
 rw[getElem!_pos _ i (by simp only[List.size_toArray];omega),getElem!_pos _ j hj]
 by_cases e:i=j
 ·subst e;exact Int.le_refl _
 ·have:=hp i j (by omega) hj' (by omega)
  simpa using this
theorem compact_sortU (zs:List Int):Lib.compact (zs.mergeSort fun x y=>decide (x≤y))=sortU zs:=by
 unfold Lib.compact
 obtain ⟨h1,h2⟩:=compact_up (sorted_get zs) (zs.mergeSort fun x y=>decide (x≤y)).length (by simp)
 refine sortU_unique h1 fun x=>?_
 rw[h2,←List.mem_mergeSort (le:=fun x y:Int=>decide (x≤y)),List.mem_iff_getElem]
 constructor
 ·rintro ⟨j,hj,e⟩
  refine ⟨j,hj,?_⟩
  rw[getElem!_pos _ j (by simpa using hj)] at e
  simpa using e
 ·rintro ⟨j,hj,e⟩
  refine ⟨j,hj,?_⟩
  rw[getElem!_pos _ j (by simpa using hj)]
  simpa using e
theorem mergeSort_sortU {zs:List Int}(h:zs.Nodup):(zs.mergeSort fun x y=>decide (x≤y))=sortU zs:=by
 refine sortU_unique ?_ fun x=>by rw[List.mem_mergeSort]
 have hp:=List.pairwise_mergeSort (le:=fun x y:Int=>decide (x≤y)) (by intro a b c;simp only[decide_eq_true_iff];omega) (by intro a b;simp only[Bool.or_eq_true,decide_eq_true_iff];omega) zs
 have hn:(zs.mergeSort fun x y=>decide (x≤y)).Nodup:=(List.mergeSort_perm zs _).nodup_iff.2 h
 refine (hp.and hn).imp ?_
 rintro a b ⟨h1,h2⟩
 have:=of_decide_eq_true h1
 omega
end Go.Abs.Kon
namespace Go.Abs.Kon
open Go Go.Proofs Go.Abs
set_option maxRecDepth 100000
set_option maxHeartbeats 4000000
def insC (op:Int) (i:Nat):Int:=if op=6 then 1 else if op=9 then i else 0
def insT (op:Int) (i:Nat):Int:=if op=4∨op=16 then 1 else if op=17∨op=13 then (if i<1 then (i:Int) else 1) else if op=9 then i else 0
def varT (n:Int):TermT:=.mk 1 n ByteArray.empty zeroC zeroC [] [] []
mutual
def chT (cf:ConT→Int→Int→ConT×Int) (vf:Int→Int→Int→TermT×Int):TermT→Int→Int→TermT×Int
 | .mk op n s con to k names l,uc,ut=>
  if op=1 then vf n uc ut else
  if hasConF op=true∧(cf con uc ut).2≠0 then (zeroT,(cf con uc ut).2) else
  if op=8∧(cf to uc ut).2≠0 then (zeroT,(cf to uc ut).2) else
  if (chL cf vf op l 0 uc ut).2≠0 then (zeroT,(chL cf vf op l 0 uc ut).2) else
  (.mk op n s (if hasConF op=true then (cf con uc ut).1 else zeroC) (if op=8 then (cf to uc ut).1 else zeroC) k names (chL cf vf op l 0 uc ut).1,0)
def chL (cf:ConT→Int→Int→ConT×Int) (vf:Int→Int→Int→TermT×Int) (op:Int):List TermT→Nat→Int→Int→List TermT×Int
 | [],_,_,_=>([],0)
 |x::r,i,uc,ut=>
  if (chT cf vf x (uc+insC op i) (ut+insT op i)).2≠0 then ([],(chT cf vf x (uc+insC op i) (ut+insT op i)).2) else
  if (chL cf vf op r (i+1) uc ut).2≠0 then ([],(chL cf vf op r (i+1) uc ut).2) else
  ((chT cf vf x (uc+insC op i) (ut+insT op i)).1::(chL cf vf op r (i+1) uc ut).1,0)
end
def finT (r:TermT×Int):TermT×Int:=if r.2≠0∨validT r.1=false then (zeroT,6) else (r.1,0)
def shCf (n:Int) (c:ConT) (uc _ut:Int):ConT×Int:=shiftF c n uc
def shVf (n m _uc ut:Int):TermT×Int:=(varT (if m≥ut then m+n else m),0)
def shT (cons terms:Int) (t:TermT):TermT×Int:=chT (shCf cons) (shVf terms) t 0 0
/-! Free variables -/
def freeL (c:ConT):List Int:=(leaves c 0).filterMap fun x=>if x.1.op=1∧x.1.n≥x.2 then some (x.1.n - x.2) else none
def freeF (c:ConT):List Int:=if validF c=true then sortU (freeL c) else []
def above (l:List Int) (u:Int):List Int:=l.filterMap fun n=>if n≥u then some (n - u) else none
mutual
def consF:TermT→Int→List Int
 | .mk op _ _ con to _ _ l,uc=>(if hasConF op=true then above (freeF con) uc else [])++((if op=8 then above (freeF to) uc else [])++consL op l 0 uc)
def consL (op:Int):List TermT→Nat→Int→List Int
 | [],_,_=>[]
 |x::r,i,uc=>consF x (uc+insC op i)++consL op r (i+1) uc
end
mutual
def termsF:TermT→Int→List Int
 | .mk op n _ _ _ _ _ l,ut=>(if op=1 then above [n] ut else [])++termsL op l 0 ut
def termsL (op:Int):List TermT→Nat→Int→List Int
 | [],_,_=>[]
 |x::r,i,ut=>termsF x (ut+insT op i)++termsL op r (i+1) ut
end
def headLt (l:List Int) (by':Int):Bool:=match l with
 | []=>false
 |x::_=>decide (x+by'<0)
def inB (n:Int):Bool:=decide (n≥-20000)&&decide (n≤20000)
def ShiftT (t:TermT) (cons terms:Int):TermT×Int:=
 if validT t=false then (zeroT,1) else
 if inB cons=false∨inB terms=false∨headLt (sortU (consF t 0)) cons=true∨headLt (sortU (termsF t 0)) terms=true then (zeroT,2) else finT (shT cons terms t)
/-! Well-formed terms -/
mutual
def wfT:TermT→Bool
 | .mk op n s con to k names l=>nodeT op n s con to k names l.length&&wfL l
def wfL:List TermT→Bool
 | []=>true
 |x::r=>wfT x&&wfL r
end
mutual
def depthT:TermT→Nat
 | .mk _ _ _ _ _ _ _ l=>depthTL l+1
def depthTL:List TermT→Nat
 | []=>0
 |x::r=>max (depthT x) (depthTL r)
end
theorem depthTL_mem {x:TermT}:∀{l:List TermT},x∈l→depthT x≤depthTL l
 | [],h=>absurd h (by simp)
 |y::r,h=>by
  rw[depthTL]
  rcases List.mem_cons.1 h with rfl|h
  ·omega
  ·have:=depthTL_mem h;omega
theorem wfL_mem:∀{l:List TermT},wfL l=true↔∀x∈l,wfT x=true
 | []=>by simp[wfL]
 |x::r=>by simp[wfL,wfL_mem (l:=r)]
mutual
theorem measT_wf:∀(t:TermT) (left depth:Int),(measT t left depth).2=true→wfT t=true∧depth+depthT t≤401
 | .mk op n s con to k names l,left,depth=>by
  rw[measT,wfT,depthT]
  split
  ·intro h;cases h
  ·rename_i h
   intro h1
   have h2:nodeT op n s con to k names l.length=true:=by
    cases h3:nodeT op n s con to k names l.length with
    |true=>rfl
    |false=>exact absurd (.inr (.inr h3)) h
   obtain ⟨h3,h4⟩:=measTL_wf l left _ depth h1 (by omega)
   rw[h2,h3]
   exact ⟨rfl,by omega⟩
theorem measTL_wf:∀(l:List TermT) (left n depth:Int),(measTL l left n depth).2=true→depth≤400→wfL l=true∧depth+depthTL l≤400
 | [],left,n,depth=>by
  intro _ h
  rw[wfL,depthTL]
  exact ⟨rfl,by omega⟩
 |x::r,left,n,depth=>by
  rw[measTL,wfL,depthTL]
  split
  ·intro h;cases h
  ·rename_i h
   intro h1 h2
   obtain ⟨h3,h4⟩:=measT_wf x _ _ (by simpa using h)
   obtain ⟨h5,h6⟩:=measTL_wf r _ _ _ h1 h2
   rw[h3,h5]
   exact ⟨rfl,by omega⟩
end
theorem valid_wf {t:TermT}(h:validT t=true):wfT t=true∧depthT t≤400:=by
 obtain ⟨h1,h2⟩:=measT_wf t 20000 1 h
 exact ⟨h1,by omega⟩
end Go.Abs.Kon