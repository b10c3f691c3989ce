/- The abstract layer, second part: the rest of the operations, contracts, and calls by their contracts. -/
import Derived.Test.YtafhcphggdipaaaGreatDoorAbsA
import Derived.Great.FillDense
import Derived.Laws.BytesString
import Derived.Laws.IdiomStrings
set_option linter.unusedSimpArgs false
set_option linter.unusedVariables false
namespace Go.Abs
open Go
section ops
variable {P:Program}{o:Oper}{act:Act}{w:World}{G:Gh}{used:List Nat}{ρ:Operand→SV}{bx:Nm→Option Box}
theorem fill_step {cells:Array Value}{off:Nat}{u:Value}(h:off+u.cells.size≤cells.size) :
  (u.cells.zipIdx.foldl (fun cs (c,j)=>cs.setIfInBounds (off+j) c) cells).toList=cells.toList.take off++u.cells.toList++cells.toList.drop (off+u.cells.toList.length):=by
 rw[←Array.foldl_toList,Array.toList_zipIdx]
 obtain ⟨h1,h2⟩:=Go.Great.foldl_set off u.cells.toList 0 cells
 apply List.ext_getElem?
 intro k
 have h3:=h2 k
 rw[←Array.getElem?_toList] at h3
 rw[Array.length_toList] at h3
 refine h3.trans ?_
 simp only[Nat.add_zero,List.append_assoc,List.getElem?_append,List.length_take,Array.length_toList,List.getElem?_take,List.getElem?_drop]
 have hm:min off cells.size=off:=by omega
 rw[hm]
 by_cases ha:k<off
 ·rw[if_neg (by omega),if_pos ha,if_pos ha];simp
 ·rw[if_neg ha]
  by_cases hb:k<off+u.cells.size
  ·rw[if_pos (by omega),if_pos (by omega)]
  ·rw[if_neg (by omega),if_neg (by omega)]
   have:off+u.cells.size+(k - off - u.cells.size)=k:=by omega
   rw[this];simp
theorem fill_sound {place:Nat→Option (Nat×Sz)}{place':Nat→Option (Nat×Nat)}(hp:∀i off k,place i=some (off,k)→place' i=some (off,k.size)) :
  ∀{parts:List (Nat×SV)}{vals:List (Nat×Value)}{cells:List SC}{cs:List SC}{vs:Array Value},
   parts.length=vals.length→(∀(j i:Nat) (x:SV),parts[j]? = some (i,x)→∃u,vals[j]? = some (i,u)∧RepSV G used x u)→fillSC place cells parts=some cs→RepSCs G used cells vs.toList→(∀x∈vs.toList,x.oneCell'=true) →
   ∃us:Array Value,Instr.fill place' vs vals=some us∧RepSCs G used cs us.toList∧∀x∈us.toList,x.oneCell'=true
 | [],[],cells,cs,vs,_,_,h,hr,h1=>by
  simp[fillSC] at h;subst h
  exact ⟨vs,rfl,hr,h1⟩
 | [],_::_,_,_,_,hl,_,_,_,_=>by simp at hl
 |_::_,[],_,_,_,hl,_,_,_,_=>by simp at hl
 | (i,x)::parts,(i',u)::vals,cells,cs,vs,hl,hv,h,hr,h1=>by
  obtain ⟨u0,h2,h3⟩:=hv 0 i x rfl
  simp only[List.getElem?_cons_zero,Option.some.injEq,Prod.mk.injEq] at h2
  obtain ⟨rfl,rfl⟩:=h2
  simp only[fillSC] at h
  split at h
  ·cases h
  ·rename_i off k hpl
   split at h
   ·cases h
   ·rename_i xs hxs
    split at h
    ·rename_i hfit
     obtain ⟨h4,h5⟩:=cellsAt_rep h3 hxs
     have hl1:cells.length=vs.size:=by simpa using hr.length
     have hl2:xs.length=u.cells.size:=by simpa using h5.length
     have hsz:=Sz.size_of_ok h4
     have hfs:=fill_step (cells:=vs) (off:=off) (u:=u) (by omega)
     have ih:=fill_sound hp (parts:=parts) (vals:=vals) (cs:=cs) (vs:=u.cells.zipIdx.foldl (fun cs (c,j)=>cs.setIfInBounds (off+j) c) vs) (by simpa using hl)
      (fun j i x hj=>by simpa using hv (j+1) i x (by simpa using hj)) h (by rw[hfs];exact splice_rep hr h5 off) (by
       rw[hfs]
       intro y hy
       rcases List.mem_append.1 hy with hy|hy
       ·rcases List.mem_append.1 hy with hy|hy
        ·exact h1 y (List.mem_of_mem_take hy)
        ·exact Sz.cells_one h4 y hy
       ·exact h1 y (List.mem_of_mem_drop hy))
     obtain ⟨us,h6,h7⟩:=ih
     refine ⟨us,?_,h7⟩
     simp only[Instr.fill,hp _ _ _ hpl]
     rw[if_neg (by simp;omega)]
     exact h6
    ·cases h
theorem placesL_run:∀{fs:List Field}{pl:List (Nat×Sz)},placesL P fs=some pl →
  (fs.mapM (fun f=>(do pure (f.offset,←sizeOf f.type):Sem (Nat×Nat)))).run P w=.ok (pl.map fun x=>(x.1,x.2.size)) w
 | [],pl,h=>by simp[placesL] at h;subst h;rfl
 |f::r,pl,h=>by
  simp only[placesL] at h
  split at h
  ·rename_i k l hk hl
   cases h
   have ih:=placesL_run hl
   rw[List.mapM_cons]
   simp only[Sem.run_bind,run_sizeOf_sz hk,Result.andThen_ok,Sem.run_pure,ih,List.map_cons]
  ·cases h
theorem op_build {t:TypeId}{parts:Array (Nat×Operand)}{n:Nat}{zs cs:List SC}{pl:List (Nat×Sz)}(hW:WInv G w) (ho:o.op=.build t parts) (hz:zeroOf P t=some (.agg n,.agg zs)) (hpl:placesOf P t=some pl)
  (hf:fillSC (pl[·]?) zs (parts.toList.map fun x=>(x.1,ρ x.2))=some cs) (hρ:∀x,RepSV G used (ρ x) (act.eval x)):OpRes P o act w G used (.agg cs) [] []:=by
 obtain ⟨i,v,hk,hi,hzv,hok,hzz⟩:=zeroOf_spec hz
 unfold placesOf at hpl
 cases hu:P.underlying t with
 |none=>simp[hu] at hpl
 |some d=>
 cases d<;>simp[hu] at hpl
 rename_i fs
 cases v with
 |agg vs=>
  have hzr:=zeroSV_rep G used hok
  rw[←hzz] at hzr
  obtain ⟨vs',he,h1,h2⟩:=hzr
  cases he
  have hrun:=placesL_run (w:=w) hpl
  have hrun':(fs.mapM (fun f=>(do pure (f.offset,←sizeOf f.type):Sem (Nat×Nat)))).run P w=.ok (pl.map fun x=>(x.1,x.2.size)).toArray w:=by
   rw[Array.mapM_eq_mapM_toList]
   simp only[Sem.run_map,hrun,Result.andThen_ok]
  obtain ⟨us,h3,h4,h5⟩:=fill_sound (G:=G) (used:=used) (place':=((pl.map fun x=>(x.1,x.2.size)).toArray[·]?)) (fun i off k h=>by simp[h]) (parts:=parts.toList.map fun x=>(x.1,ρ x.2))
   (vals:=(parts.map fun x=>(x.1,act.eval x.2)).toList) (by simp) (fun j i x hj=>by
    simp only[List.getElem?_map,Option.map_eq_some_iff,Prod.mk.injEq] at hj
    obtain ⟨a,ha,rfl,rfl⟩:=hj
    exact ⟨act.eval a.2,by simp only[Array.toList_map,List.getElem?_map,ha,Option.map_some],hρ _⟩) hf h1 h2
  refine OpRes.quiet hW (.agg us) ?_ ⟨us,rfl,h4,h5⟩
  simp only[execOp,ho,Instr.build,zeroValue,Sem.run_bind,run_typeInfo hi,Result.andThen_ok,hzv,run_underlying hu,Sem.run_pure,Value.cells]
  rw[hrun']
  simp only[Result.andThen_ok]
  rw[show (parts.map fun x=>match x with | (i,x)=>(i,act.eval x))=parts.map fun x=>(x.1,act.eval x.2) from rfl,h3]
  rfl
 |_=>
  simp only[zeroSV] at hzz
  cases hzz
theorem pvsOf_rep {k:Sz}:∀{xs:List SV}{vs:List Value}{es:List PV},xs.length=vs.length→(∀(j:Nat) (x:SV),xs[j]? = some x→∃u,vs[j]? = some u∧RepSV G used x u)→pvsOf k xs=some es →
  RepL G.I es vs∧∀v∈vs,k.okV v=true
 | [],vs,es,hl,_,h=>by
  simp[pvsOf] at h;subst h
  have:vs=[]:=List.eq_nil_of_length_eq_zero (by simpa using hl.symm)
  subst this
  exact ⟨by simp[RepL],by simp⟩
 |x::xs,[],es,hl,_,h=>by simp at hl
 |x::xs,v::vs,es,hl,hv,h=>by
  simp only[pvsOf] at h
  split at h
  ·rename_i p hp
   split at h
   ·rename_i hk
    simp only[Option.map_eq_some_iff] at h
    obtain ⟨qs,hq,rfl⟩:=h
    obtain ⟨u,h1,h2⟩:=hv 0 x rfl
    simp only[List.getElem?_cons_zero,Option.some.injEq] at h1
    subst h1
    have hr:=SV.pv_rep h2 hp
    obtain ⟨h3,h4⟩:=pvsOf_rep (vs:=vs) (by simpa using hl) (fun j x hj=>by simpa using hv (j+1) x (by simpa using hj)) hq
    refine ⟨?_,?_⟩
    ·rw[RepL];exact ⟨v,vs,rfl,hr,h3⟩
    ·intro y hy
     rcases List.mem_cons.1 hy with rfl|hy
     ·exact hasSz_ok hr hk
     ·exact h4 y hy
   ·cases h
  ·cases h
theorem flat_length {k:Sz}:∀{vs:List Value},(∀v∈vs,k.okV v=true)→(flatCells vs).length=vs.length*k.size
 | [],_=>by simp[flatCells]
 |v::vs,h=>by
  have ih:=flat_length (vs:=vs) (fun x hx=>h x (List.mem_cons_of_mem _ hx))
  have h1:=Sz.size_of_ok (h v (by simp))
  simp only[flatCells,List.flatMap_cons,List.length_append,Array.length_toList,List.length_cons] at ih ⊢
  rw[h1,ih,Nat.add_mul,Nat.one_mul,Nat.add_comm]
theorem flat_one {k:Sz}{vs:List Value}(h:∀v∈vs,k.okV v=true):∀x∈flatCells vs,x.oneCell'=true:=by
 intro x hx
 obtain ⟨v,hv,hx⟩:=List.mem_flatMap.1 hx
 exact Sz.cells_one (h v hv) x hx
theorem RepE_of_flat {I:Imm}{k:Sz}{b:Nat}:∀{es:List PV}{vs:List Value}{o:Nat},RepL I es vs→(∀v∈vs,k.okV v=true)→(∀(j:Nat) (x:Value),(flatCells vs)[j]? = some x→I b (o+j)=some x)→RepE I k es b o
 | [],vs,o,_,_,_=>by simp[RepE]
 |e::es,vs,o,h,h1,h2=>by
  rw[RepL] at h
  obtain ⟨v,rest,rfl,h3,h4⟩:=h
  have hv:=h1 v (by simp)
  have hs:=Sz.size_of_ok hv
  rw[RepE]
  refine ⟨⟨v,h3,hv,fun j x hj=>h2 j x ?_⟩,RepE_of_flat h4 (fun x hx=>h1 x (List.mem_cons_of_mem _ hx)) fun j x hj=>?_⟩
  ·simp only[flatCells,List.flatMap_cons]
   rw[List.getElem?_append_left (by have:=(Array.getElem?_eq_some_iff.1 hj).1;simpa using this)]
   simpa using hj
  ·have:=h2 (k.size+j) x (by
    simp only[flatCells,List.flatMap_cons]
    rw[List.getElem?_append_right (by simp;omega)]
    simp only[Array.length_toList,hs,Nat.add_sub_cancel_left]
    exact hj)
   rw[Nat.add_assoc];exact this
theorem flat_of_RepE {I:Imm}{k:Sz}{b:Nat}:∀{es:List PV}{o:Nat},RepE I k es b o→∃vs,RepL I es vs∧(∀v∈vs,k.okV v=true)∧∀(j:Nat) (x:Value),(flatCells vs)[j]? = some x→I b (o+j)=some x
 | [],o,_=>⟨[],by simp[RepL],by simp,by simp[flatCells]⟩
 |e::es,o,h=>by
  rw[RepE] at h
  obtain ⟨⟨v,h1,h2,h3⟩,h4⟩:=h
  obtain ⟨vs,h5,h6,h7⟩:=flat_of_RepE h4
  have hs:=Sz.size_of_ok h2
  refine ⟨v::vs,?_,?_,fun j x hj=>?_⟩
  ·rw[RepL];exact ⟨v,vs,rfl,h1,h5⟩
  ·intro y hy
   rcases List.mem_cons.1 hy with rfl|hy
   ·exact h2
   ·exact h6 y hy
  ·simp only[flatCells,List.flatMap_cons] at hj
   by_cases hlt:j<k.size
   ·rw[List.getElem?_append_left (by simpa [hs] using hlt)] at hj
    exact h3 j x (by simpa using hj)
   ·rw[List.getElem?_append_right (by simp;omega)] at hj
    simp only[Array.length_toList,hs] at hj
    have:=h7 (j - k.size) x hj
    rw[show o+k.size+(j - k.size)=o+j from by omega] at this
    exact this
theorem Rep_slice_mk {I:Imm}{k:Sz}{es:List PV}{b o cap:Nat}(h:RepE I k es b o) (h1:es.length≤cap) (h2:cap≤maxLen):Rep I (.slice es) (.slice (some ⟨b,o,none⟩) es.length cap):=by
 rw[Rep]
 exact ⟨_,_,_,k,rfl,rfl,h1,h2,.inr ⟨b,o,rfl,h⟩⟩
theorem op_buildSlice {d:Nat}{t:TypeId}{len:Nat}{parts:Array (Nat×Operand)}{k:Sz}{bytes:Nat}{es:List PV}(hW:WInv G w) (ho:o.op=.buildSlice t len parts) (hd:o.dst=some d) (hs:elemSz P t=some (k,bytes))
  (hix:parts.toList.map (·.1)=List.range len) (hlim:len*k.size≤16777216) (hp:pvsOf k (parts.toList.map fun x=>ρ x.2)=some es) (hρ:∀x,RepSV G used (ρ x) (act.eval x)) (hfr:G.tok (2*d+1)=none) :
  OpRes P o act w G used (.one (.own (2*d+1) k es)) [] [2*d]:=by
 obtain ⟨e,inf,z,hu,hsz,hinf,hsi,_,hpos,hzv,hzo⟩:=elemSz_spec hs
 have hlen:parts.toList.length=len:=by have:=congrArg List.length hix;simpa using this
 obtain ⟨h1,h2⟩:=pvsOf_rep (G:=G) (used:=used) (k:=k) (vs:=parts.toList.map fun x=>act.eval x.2) (by simp) (fun j x hj=>by
  simp only[List.getElem?_map,Option.map_eq_some_iff] at hj ⊢
  obtain ⟨a,ha,rfl⟩:=hj
  exact ⟨_,⟨a,ha,rfl⟩,hρ _⟩) hp
 have hel:es.length=len:=by have:=h1.length;rw[this];simpa using hlen
 subst hel
 generalize hvs:parts.toList.map (fun x=>act.eval x.2)=vs at h1 h2
 have hvl:vs.length=es.length:=by rw[←hvs];simpa using hlen
 have hparts:(parts.map fun x=>(x.1,act.eval x.2)).toList=(vs.zipIdx 0).map fun x=>(x.2,x.1):=by
  apply List.ext_getElem?
  intro j
  have hj:(parts.toList.map (·.1))[j]? = (List.range es.length)[j]? := by rw[hix]
  simp only[Array.toList_map,List.getElem?_map,List.getElem?_zipIdx,Nat.zero_add,←hvs] at hj ⊢
  cases ha:parts.toList[j]? with
  |none=>simp
  |some a=>
   rw[ha] at hj
   have hjl:j<es.length:=by have:=(List.getElem?_eq_some_iff.1 ha).1;omega
   simp only[Option.map_some,List.getElem?_range hjl,Option.some.injEq] at hj
   simp[hj]
 have hsize:(flatCells vs).length=es.length*k.size:=by rw[flat_length h2,hvl]
 have hfill:∀cells:Array Value,cells.size=es.length*k.size→Instr.fill (fun i=>some (i*k.size,k.size)) cells ((vs.zipIdx 0).map fun x=>(x.2,x.1))=some (flatCells vs).toArray:=fun cells hc=>
  Go.Great.fill_whole hpos vs cells (fun v hv=>Sz.size_of_ok (h2 v hv)) (by rw[hvl,hc])
 obtain ⟨G',g1,g2,g3,g4,g5,g6⟩:=lay_row hW (flatCells vs).toArray e es.length es.length k (2*d+1) hfr (Nat.le_refl _) (by unfold maxLen;have:es.length≤es.length*k.size:=Nat.le_mul_of_pos_right _ hpos;omega) (by simp[hsize]) false (fun _=>rfl)
 have hall:∀e∈es,e.hasSz k=true:=fun e he=>by
  obtain ⟨j,hj⟩:=List.mem_iff_getElem?.1 he
  obtain ⟨v,hv,hr⟩:=h1.get j e hj
  exact ok_hasSz hr (h2 v (List.mem_of_getElem? hv))
 have hrep:Rep G'.I (.slice es) (.slice (some ⟨w.heap.size,0,none⟩) es.length es.length):=by
  have hE:RepE G'.I k es w.heap.size 0:=RepE_of_flat (RepL.mono g2.I _ _ h1) h2 fun j x hj=>by
   rw[Nat.zero_add]
   exact g3 j x (by have:=(List.getElem?_eq_some_iff.1 hj).1;omega) (by simpa using hj)
  exact Rep_slice_mk hE (Nat.le_refl _) (by unfold maxLen;have:es.length≤es.length*k.size:=Nat.le_mul_of_pos_right _ hpos;omega)
 refine ⟨.slice (some ⟨w.heap.size,0,none⟩) es.length es.length,_,G',.inl ?_,⟨hrep,hall,fun _=>⟨_,g4,rfl,rfl,rfl⟩⟩,g1,g2.weaken (fun _ h=>h.elim) (fun _ h=>by simp at h),(by simp),fun t' ht=>(g5 t' ht).imp id (fun e=>by simp[tokOf,hd,e]),fun n hn=>.inl (by rw[←g6];exact hn)⟩
 simp only[execOp,ho,Instr.buildSlice,Sem.run_bind,run_underlying hu,Result.andThen_ok,run_sizeOf_sz hsz]
 rw[if_neg (by omega)]
 simp only[Sem.run_pure]
 rw[show (parts.map fun x=>match x with | (i,x)=>(i,act.eval x))=parts.map fun x=>(x.1,act.eval x.2) from rfl,hparts]
 by_cases h0:es.length*k.size=0
 ·simp only[h0,if_true,pure_bind]
  have hc:=hfill ((Array.range 0).map (fun x=>#[][x % (#[]:Array Value).size]!)) (by simp[h0])
  rw[hc]
  simp[newRow]
 ·rw[if_neg h0]
  simp only[zeroValue,Sem.run_bind,run_typeInfo hinf,Result.andThen_ok,hzv,Sem.run_pure]
  rw[hfill ((Array.range (es.length*k.size)).map (fun x=>z.cells[x % z.cells.size]!)) (by simp)]
  simp[newRow]
theorem op_buildSl {d:Nat}{t:TypeId}{x:Operand}{k:Sz}{bytes:Nat}(hW:WInv G w) (ho:o.op=.buildSlice t 1 #[(0,x)]) (hs:elemSz P t=some (k,bytes)) (hk:(ρ x).hasSz k=true) (hlim:k.size≤16777216) (hρ:∀x,RepSV G used (ρ x) (act.eval x)) (hn:G.blk (.loc d)=none) :
  OpRes P o act w G used (.one (.sl (.loc d))) [(.loc d,⟨k,ρ x⟩)] []:=by
 obtain ⟨e,inf,z,hu,hsz,hinf,hsi,_,hpos,hzv,hzo⟩:=elemSz_spec hs
 have hok:=hasSz_okV (hρ x) hk
 obtain ⟨G',h1,h2,h3,h4,h5,h6⟩:=lay_box (T:=e) hW hn hok (hρ x)
 obtain ⟨b,hb,hv⟩:=h4
 simp only[Value.pointer.injEq,Option.some.injEq,Addr.mk.injEq] at hv
 obtain ⟨rfl,_⟩:=hv
 have hfill:∀cells:Array Value,cells.size=k.size→Instr.fill (fun i=>some (i*k.size,k.size)) cells [(0,act.eval x)]=some (act.eval x).cells:=fun cells hc=>by
  have:=Go.Great.fill_whole hpos [act.eval x] cells (fun v hv=>by rw[List.mem_singleton.1 hv];exact Sz.size_of_ok hok) (by simpa using hc.symm)
  simpa using this
 refine ⟨.slice (some ⟨w.heap.size,0,none⟩) 1 1,_,G',.inl ?_,⟨_,hb,rfl⟩,h1,h2.weaken (fun n e=>by simp[e]) (fun _ h=>h),fun n b' hb'=>?_,fun t' ht=>.inl (by rw[←h5];exact ht),fun n hn'=>(h6 n hn').imp id (fun e=>by simp[e])⟩
 ·simp only[execOp,ho,Instr.buildSlice,Sem.run_bind,run_underlying hu,Result.andThen_ok,run_sizeOf_sz hsz]
  rw[if_neg (by omega)]
  simp only[Sem.run_pure]
  rw[if_neg (by omega)]
  simp only[zeroValue,Sem.run_bind,run_typeInfo hinf,Result.andThen_ok,hzv,Sem.run_pure,List.map_toArray,List.map_cons,List.map_nil,Nat.one_mul]
  rw[hfill ((Array.range k.size).map (fun x=>z.cells[x % z.cells.size]!)) (by simp)]
  simp[newRow]
 ·simp only[List.mem_singleton,Prod.mk.injEq] at hb'
  obtain ⟨rfl,rfl⟩:=hb'
  simpa using h3
/-! Rows -/
theorem flatCells_cons (v:Value) (vs:List Value):flatCells (v::vs)=v.cells.toList++flatCells vs:=by simp[flatCells]
theorem flat_get {k:Sz}:∀{vs:List Value}{i:Nat}{u:Value},(∀x∈vs,k.okV x=true)→vs[i]? = some u→∀(j:Nat) (y:Value),u.cells[j]? = some y→(flatCells vs)[i*k.size+j]? = some y
 | [],i,u,_,h,j,y,_=>by simp at h
 |v::vs,0,u,hk,h,j,y,hj=>by
  simp at h
  subst h
  have:j<v.cells.size:=(Array.getElem?_eq_some_iff.1 hj).1
  rw[flatCells_cons,Nat.zero_mul,Nat.zero_add,List.getElem?_append_left (by simpa using this)]
  simpa using hj
 |v::vs,i+1,u,hk,h,j,y,hj=>by
  have h1:=Sz.size_of_ok (hk v (by simp))
  have h2:=flat_get (vs:=vs) (fun x hx=>hk x (List.mem_cons_of_mem _ hx)) (by simpa using h) j y hj
  rw[flatCells_cons,List.getElem?_append_right (by rw[Array.length_toList,h1,Nat.add_mul];omega),Array.length_toList,h1]
  have:(i+1)*k.size+j - k.size=i*k.size+j:=by rw[Nat.add_mul];omega
  rw[this];exact h2
theorem flat_set {k:Sz}:∀{vs:List Value}{i:Nat}{u:Value},(∀x∈vs,k.okV x=true)→k.okV u=true→i<vs.length →
  flatCells (vs.set i u)=(flatCells vs).take (i*k.size)++u.cells.toList++(flatCells vs).drop (i*k.size+k.size)
 | [],i,u,_,_,h=>by simp at h
 |v::vs,0,u,hk,hu,h=>by
  have h1:=Sz.size_of_ok (hk v (by simp))
  have h2:v.cells.toList.length=k.size:=by simpa using h1
  rw[List.set_cons_zero,flatCells_cons,flatCells_cons,Nat.zero_mul,List.take_zero,List.nil_append,Nat.zero_add,←h2,List.drop_left]
 |v::vs,i+1,u,hk,hu,h=>by
  have h1:=Sz.size_of_ok (hk v (by simp))
  have h2:v.cells.toList.length=k.size:=by simpa using h1
  have ih:=flat_set (vs:=vs) (i:=i) (u:=u) (fun x hx=>hk x (List.mem_cons_of_mem _ hx)) hu (by simpa using h)
  have e1:(i+1)*k.size=v.cells.toList.length+i*k.size:=by rw[h2,Nat.add_mul];omega
  rw[List.set_cons_succ,flatCells_cons,ih,flatCells_cons,e1,List.take_append,List.drop_append]
  have e2:List.take (v.cells.toList.length+i*k.size) v.cells.toList=v.cells.toList:=List.take_of_length_le (by omega)
  have e3:List.drop (v.cells.toList.length+i*k.size+k.size) v.cells.toList=[]:=List.drop_of_length_le (by omega)
  have e4:v.cells.toList.length+i*k.size - v.cells.toList.length=i*k.size:=by omega
  have e5:v.cells.toList.length+i*k.size+k.size - v.cells.toList.length=i*k.size+k.size:=by omega
  rw[e2,e3,e4,e5]
  simp
theorem RepL.set {I:Imm}:∀{es:List PV}{vs:List Value}{i:Nat}{p:PV}{u:Value},RepL I es vs→Rep I p u→RepL I (es.set i p) (vs.set i u)
 | [],vs,i,p,u,h,_=>by
  rw[RepL] at h
  subst h
  simp[RepL]
 |x::es,vs,0,p,u,h,hp=>by
  rw[RepL] at h
  obtain ⟨v,rest,rfl,_,h2⟩:=h
  rw[List.set_cons_zero,List.set_cons_zero,RepL]
  exact ⟨u,rest,rfl,hp,h2⟩
 |x::es,vs,i+1,p,u,h,hp=>by
  rw[RepL] at h
  obtain ⟨v,rest,rfl,h1,h2⟩:=h
  rw[List.set_cons_succ,List.set_cons_succ,RepL]
  exact ⟨v,_,rfl,h1,RepL.set h2 hp⟩
theorem flat_fits {vs:List Value}{cur:Array Value}(h:∀(j:Nat) (v:Value),(flatCells vs)[j]? = some v→cur[j]? = some v):(flatCells vs).length≤cur.size:=by
 rcases Nat.eq_zero_or_pos (flatCells vs).length with h0|h0
 ·omega
 ·have h1:(flatCells vs)[(flatCells vs).length - 1]? = some ((flatCells vs)[(flatCells vs).length - 1]'(by omega)):=List.getElem?_eq_getElem _
  have:=(Array.getElem?_eq_some_iff.1 (h _ _ h1)).1
  omega
theorem op_indexAddr_row {t:TypeId}{x ix:Operand}{k:Sz}{bytes:Nat}{n:Nm}{m:Nat}{i:Int}(hW:WInv G w) (ho:o.op=.indexAddr t x ix) (hs:elemSz P t=some (k,bytes)) (hx:rwOf? (ρ x)=some (n,m)) (hi:intOf? (ρ ix)=some i)
  (h0:0≤i) (h1:i<(m:Int)) (hρ:∀x,RepSV G used (ρ x) (act.eval x)):OpRes P o act w G used (.one (.ptr n (i.toNat*k.size))) [] []:=by
 obtain ⟨el,inf,z,hu,hsz,hinf,hsi,_,hpos,_,_⟩:=elemSz_spec hs
 obtain ⟨ik,hiv⟩:=intOf_rep (hρ ix) hi
 have hr:=hρ x
 unfold rwOf? at hx
 split at hx
 ·rename_i n' m' heq
  cases hx
  rw[heq] at hr
  simp only[RepSV,RepSC] at hr
  obtain ⟨b,cap,hb,hv,_⟩:=hr
  refine OpRes.quiet hW (.pointer (some ⟨b,i.toNat*k.size,none⟩)) ?_ ⟨b,hb,rfl⟩
  simp[execOp,ho,Instr.indexAt,hiv,asIntOf,run_underlying hu,hv,h0,h1,run_sizeOf_sz hsz,add_none]
 ·cases hx
theorem op_load_row {t:TypeId}{a:Operand}{k:Sz}{n:Nm}{off i:Nat}{b:Box}{es:List PV}{e:PV}(hW:WInv G w) (ho:o.op=.load t a) (hk:szOf P t=some k) (ha:ρ a=.one (.ptr n off)) (hb:bx n=some b)
  (hrow:rowOf? b.c=some (k,es)) (hix:rowIx off k.size=some i) (he:es[i]? = some e) (hρ:∀x,RepSV G used (ρ x) (act.eval x)) (hbx:∀n b,bx n=some b→BoxAt G used w n b):OpRes P o act w G used (.one (.pv e)) [] []:=by
 obtain ⟨bk,bc⟩:=b
 simp only at hrow
 unfold rowOf? at hrow
 split at hrow
 ·rename_i k' es' _
  cases hrow
  obtain ⟨g,cur,T,vs,h1,h2,h3,h4,h5,h6,h7,hz⟩:=(hbx n _ hb).row
  have hra:=hρ a
  rw[ha] at hra
  simp only[RepSV,RepSC] at hra
  obtain ⟨g',hg',hae⟩:=hra
  rw[h1] at hg';cases hg'
  obtain ⟨u,hu1,hu2⟩:=RepL.get h3 _ _ he
  have hok:=h4 u (List.mem_of_getElem? hu1)
  have hoff:=rowIx_spec hix h6
  refine OpRes.quiet hW u ?_ hu2
  have:=run_loadVar_sz (P:=P) (w:=w) hk (b:=g) (o:=off) hok (fun j y hj=>by rw[cell_row h2,hoff];exact h7 _ _ (flat_get h4 hu1 j y hj))
  simp[execOp,ho,Instr.loadAt,hae,Instr.sureAddr,this]
 ·cases hrow
theorem op_load_rowPart {t:TypeId}{a:Operand}{k kt:Sz}{n:Nm}{off:Nat}{b:Box}{es:List PV}{e:PV}{v:SV}(hW:WInv G w) (ho:o.op=.load t a) (hk:szOf P t=some kt) (ha:ρ a=.one (.ptr n off)) (hb:bx n=some b)
  (hrow:rowOf? b.c=some (k,es)) (he:es[off / k.size]? = some e) (hv:loadPV e (off % k.size) kt=some v) (hρ:∀x,RepSV G used (ρ x) (act.eval x)) (hbx:∀n b,bx n=some b→BoxAt G used w n b):OpRes P o act w G used v [] []:=by
 obtain ⟨bk,bc⟩:=b
 simp only at hrow
 unfold rowOf? at hrow
 split at hrow
 ·rename_i k' es' _
  cases hrow
  obtain ⟨g,cur,T,vs,h1,h2,h3,h4,h5,h6,h7,hz⟩:=(hbx n _ hb).row
  have hra:=hρ a
  rw[ha] at hra
  simp only[RepSV,RepSC] at hra
  obtain ⟨g',hg',hae⟩:=hra
  rw[h1] at hg';cases hg'
  obtain ⟨u,hu1,hu2⟩:=RepL.get h3 _ _ he
  have hok:=h4 u (List.mem_of_getElem? hu1)
  obtain ⟨u',q1,q2,q3⟩:=loadPV_sound (used:=used) hu2 hok hv
  have hoff:off=off / k.size*k.size+off % k.size:=by rw[Nat.mul_comm];exact (Nat.div_add_mod off k.size).symm
  refine OpRes.quiet hW u' ?_ q2
  have:=run_loadVar_sz (P:=P) (w:=w) hk (b:=g) (o:=off) q1 (fun j y hj=>by
   rw[cell_row h2]
   refine h7 _ _ ?_
   have:=flat_get h4 hu1 (off % k.size+j) y (q3 j y hj)
   rw[show off+j=off / k.size*k.size+(off % k.size+j) by omega]
   exact this)
  simp[execOp,ho,Instr.loadAt,hae,Instr.sureAddr,this]
 ·cases hrow
theorem op_store_row {t:TypeId}{a x:Operand}{k:Sz}{n:Nm}{off i:Nat}{b:Box}{es:List PV}{p:PV}(hW:WInv G w) (ho:o.op=.store t a x) (hk:szOf P t=some k) (ha:ρ a=.one (.ptr n off)) (hb:bx n=some b)
  (hrow:rowOf? b.c=some (k,es)) (hix:rowIx off k.size=some i) (hp:(ρ x).pv? = some p) (hi:i<es.length) (hpk:p.hasSz k=true) (hρ:∀x,RepSV G used (ρ x) (act.eval x)) (hbx:∀n b,bx n=some b→BoxAt G used w n b) :
  OpRes P o act w G used (.one .any) [(n,⟨b.k,.one (.rwc k (es.set i p))⟩)] []:=by
 obtain ⟨bk,bc⟩:=b
 simp only at hrow
 unfold rowOf? at hrow
 split at hrow
 ·rename_i k' es' _
  cases hrow
  obtain ⟨g,cur,T,vs,h1,h2,h3,h4,h5,h6,h7,hz⟩:=(hbx n _ hb).row
  have hra:=hρ a
  rw[ha] at hra
  simp only[RepSV,RepSC] at hra
  obtain ⟨g',hg',hae⟩:=hra
  rw[h1] at hg';cases hg'
  have hoff:=rowIx_spec hix h6
  have hpr:=SV.pv_rep (hρ x) hp
  have hok:=hasSz_ok hpr hpk
  have hlen:=h3.length
  have hfl:=flat_length h4
  have hfit:off+k.size≤cur.size:=by
   have:=flat_fits h7
   rw[hfl] at this
   have h8:(i+1)*k.size≤vs.length*k.size:=Nat.mul_le_mul_right _ (by omega)
   rw[Nat.add_mul] at h8
   omega
  have hst:=run_storeVar_sz (P:=P) (w:=w) hk (g:=g) (o:=off) (u:=act.eval x) hok h2 hfit
  have hcl:(act.eval x).cells.toList.length=k.size:=by simpa using Sz.size_of_ok hok
  obtain ⟨q1,q2⟩:=turn_obj (w':=w.setRow g (cur.toList.take off++(act.eval x).cells.toList++cur.toList.drop (off+(act.eval x).cells.toList.length)).toArray) hW h1 (fun b' h=>setRow_other w g b' _ (by omega)) (by simp) rfl rfl rfl
  refine ⟨undef,_,G,.inr ⟨?_,rfl⟩,trivial,q1,q2.weaken (fun n e=>by simp[e]) (fun _ h=>h),fun n' b' hb'=>?_,fun _ h=>.inl h,fun _ h=>.inl h⟩
  ·simp[execOp,ho,Instr.storeAt,hae,Instr.sureAddr,hst]
  ·simp only[List.mem_singleton,Prod.mk.injEq] at hb'
   obtain ⟨rfl,rfl⟩:=hb'
   refine .inr (.inr ⟨g,k,_,_,T,vs.set i (act.eval x),h1,setRow_heap w g cur _ T _ h2,rfl,RepL.set h3 hpr,fun y hy=>?_,fun y hy=>?_,h6,fun j v hj=>?_,?_,hz.2⟩)
   ·rcases List.mem_or_eq_of_mem_set hy with hy|rfl
    ·exact h4 y hy
    ·exact hok
   ·rcases List.mem_or_eq_of_mem_set hy with hy|rfl
    ·exact h5 y hy
    ·exact hpk
   ·rw[flat_set h4 hok (by omega)] at hj
    have hofl:off+k.size≤(flatCells vs).length:=by
     rw[hfl]
     have h8:(i+1)*k.size≤vs.length*k.size:=Nat.mul_le_mul_right _ (by omega)
     rw[Nat.add_mul] at h8
     omega
    have hflc:=flat_fits h7
    rw[←hoff] at hj
    rw[List.getElem?_toArray,hcl]
    have t1:(List.take off (flatCells vs)).length=off:=by rw[List.length_take];omega
    have t2:(List.take off cur.toList).length=off:=by rw[List.length_take,Array.length_toList];omega
    rcases Nat.lt_or_ge j off with hj1|hj1
    ·rw[List.append_assoc,List.getElem?_append_left (by omega),List.getElem?_take,if_pos hj1] at hj ⊢
     simpa using h7 j v hj
    ·rw[List.append_assoc,List.getElem?_append_right (by omega),t1] at hj
     rw[List.append_assoc,List.getElem?_append_right (by omega),t2]
     rcases Nat.lt_or_ge (j - off) k.size with hj2|hj2
     ·rw[List.getElem?_append_left (by omega)] at hj ⊢
      exact hj
     ·rw[List.getElem?_append_right (by omega),hcl,List.getElem?_drop] at hj ⊢
      simpa using h7 _ v hj
   ·have hcs:=Sz.size_of_ok hok
    rw[←hz.1];simp only[List.size_toArray,List.length_append,List.length_take,List.length_drop,Array.length_toList];omega
 ·cases hrow
end ops
end Go.Abs
namespace Go.Abs
open Go
section ops
variable {P:Program}{o:Oper}{act:Act}{w:World}{G:Gh}{used:List Nat}{ρ:Operand→SV}{bx:Nm→Option Box}
theorem op_field {t:TypeId}{x:Operand}{f off:Nat}{k:Sz}{v:SV}{ps:List PV}(hW:WInv G w) (ho:o.op=.field t x f) (hf:fieldOff P t f=some off) (hk:fieldSz P t f=some k)
  (hx:(ρ x).pv? = some (.agg ps)) (hv:loadPV (.agg ps) off k=some v) (hρ:∀x,RepSV G used (ρ x) (act.eval x)):OpRes P o act w G used v [] []:=by
 obtain ⟨fs,fd,i,hu,hfd,hi,hs,rfl⟩:=fieldOff_spec hf
 have hkz:=fieldSz_spec hk hu hfd
 have h:=SV.pv_rep (hρ x) hx
 have h0:=h
 rw[Rep] at h
 obtain ⟨vs,he,h1,h2⟩:=h
 have hok:(Sz.agg vs.size).okV (act.eval x)=true:=by
  rw[he]
  simp only[Sz.okV,Bool.and_eq_true,beq_iff_eq,List.all_eq_true]
  exact ⟨trivial,h2⟩
 obtain ⟨u',h3,h4,h5⟩:=loadPV_sound (G:=G) (used:=used) h0 hok hv
 rw[he] at h5
 simp only[Value.cells] at h5
 refine OpRes.quiet hW u' ?_ h4
 have hp:(part fd.type vs fd.offset).run P w=.ok u' w:=by
  cases k with
  |one=>
   have hcell:u'.cells=#[u']:=by cases u'<;>simp_all [Sz.okV,Value.oneCell',Value.cells]
   have h0:=h5 0 u' (by cases u'<;>simp_all [Sz.okV,Value.oneCell'])
   simp only[Nat.add_zero] at h0
   simp[part,run_isAgg_sz hkz,Sz.isAgg,h0]
  |agg n=>
   cases u' with
   |agg us=>
    have hsz:=Sz.size_of_ok h3
    simp only[Value.cells,Sz.size] at hsz h5
    have hin:∀j,j<n→fd.offset+j<vs.size:=fun j hj=>by
     have:=h5 j us[j] (Array.getElem?_eq_getElem (by omega))
     exact (Array.getElem?_eq_some_iff.1 this).1
    have:vs.extract fd.offset (fd.offset+n)=us:=by
     apply Array.ext_getElem?
     intro j
     rw[Array.getElem?_extract]
     by_cases hj:j<n
     ·have hlt:=hin j hj
      rw[if_pos (by omega),Array.getElem?_eq_getElem (show j<us.size by omega)]
      exact h5 j us[j] (Array.getElem?_eq_getElem (by omega))
     ·rw[if_neg (by omega),Array.getElem?_eq_none (by omega)]
    simp[part,run_isAgg_sz hkz,Sz.isAgg,run_sizeOf_sz hkz,Sz.size,this]
   |_=>simp[Sz.okV] at h3
 simp[execOp,ho,Instr.field,run_underlying hu,hfd,he,asAgg,hp]
/-! Conversions -/
theorem underlying_of_eqT {t:TypeId}(h:eqTOf P t≠.none):∃d,P.underlying t=some d:=by
 cases hu:P.underlying t with
 |none=>exact absurd (by simp[eqTOf,hu]) h
 |some d=>exact ⟨d,rfl⟩
theorem cvTOf_int {t:TypeId}{k:IntKind}(h:cvTOf P t=.int k):P.underlying t=some (.int k):=by
 unfold cvTOf at h
 split at h
 ·cases h;assumption
 ·cases h
 ·split at h<;>cases h
 ·cases h
theorem cvTOf_string {t:TypeId}(h:cvTOf P t=.string):P.underlying t=some .string:=by
 unfold cvTOf at h
 split at h
 ·cases h
 ·assumption
 ·split at h<;>cases h
 ·cases h
theorem cvTOf_bytes {t:TypeId}(h:cvTOf P t=.bytes):∃e,P.underlying t=some (.slice e)∧P.underlying e=some (.int .u8):=by
 unfold cvTOf at h
 split at h
 ·cases h
 ·cases h
 ·rename_i e he
  split at h
  ·rename_i h2;exact ⟨e,he,h2⟩
  ·cases h
 ·cases h
theorem op_convert {src dst:TypeId}{x:Operand}{a p:PV}(hW:WInv G w) (ho:o.op=.convert src dst x) (ha:(ρ x).pv? = some a) (hp:convPV (eqTOf P src) (cvTOf P dst) a=some p) (hρ:∀x,RepSV G used (ρ x) (act.eval x)) :
  OpRes P o act w G used (.one (.pv p)) [] []:=by
 have hr:=SV.pv_rep (hρ x) ha
 unfold convPV at hp
 split at hp
 ·cases hp
 ·rename_i k k' n hD hS
  cases hp
  simp only[Rep] at hr
  obtain ⟨d,hu⟩:=underlying_of_eqT (P:=P) (t:=src) (fun e=>hS e)
  have hk:=cvTOf_int hD
  refine OpRes.quiet hW (.int k (k.wrap n)) ?_ (by simp[RepSV,RepSC,Rep])
  simp[execOp,ho,hr,convert,run_underlying hu,run_underlying hk,Conv.intToInt]
 ·rename_i s hS hD
  cases hp
  simp only[Rep] at hr
  have hu:=eqTOf_str hS
  have hk:=cvTOf_string hD
  refine OpRes.quiet hW (.string s) ?_ (by simp[RepSV,RepSC,Rep])
  simp[execOp,ho,hr,convert,run_underlying hu,run_underlying hk]
 ·rename_i s hS hD
  split at hp
  ·rename_i hlen
   cases hp
   simp only[Rep] at hr
   have hu:=eqTOf_str hS
   obtain ⟨e,hk,hke⟩:=cvTOf_bytes hD
   have hrun:=run_bytes_of_string (P:=P) w src dst e s hu hk hke
   have hcap1:=grownCap_ge w s.size 0 e
   have hcap2:=grownCap_le_maxLen w s.size 0 e hlen
   generalize grownCap w s.size 0 e=cap at hrun hcap1 hcap2
   obtain ⟨G',g1,g2,g3,g5,g6⟩:=lay_cells (w:=w.drew) hW.drew (.agg (bytesRow s cap)) e ((bytesRow s cap).size,(bytesRow s cap).size+1)
   have hl:(s.data.toList.map fun b=>PV.int .u8 b.toNat).length=s.size:=by simp
   have hE:RepE G'.I .one (s.data.toList.map fun b=>PV.int .u8 b.toNat) w.heap.size 0:=by
    refine RepE_of_flat (vs:=s.data.toList.map fun b=>Value.int .u8 b.toNat) ?_ ?_ ?_
    ·have:∀l:List UInt8,RepL G'.I (l.map fun b=>PV.int .u8 b.toNat) (l.map fun b=>Value.int .u8 b.toNat):=by
      intro l
      induction l with
      |nil=>simp[RepL]
      |cons c l ih=>simp only[List.map_cons];rw[RepL];exact ⟨_,_,rfl,by simp[Rep],ih⟩
     exact this _
    ·intro v hv
     obtain ⟨c,_,rfl⟩:=List.mem_map.1 hv
     rfl
    ·intro j v hj
     have hflat:∀l:List UInt8,flatCells (l.map fun b=>Value.int .u8 b.toNat)=l.map fun b=>Value.int .u8 b.toNat:=by
      intro l
      induction l with
      |nil=>rfl
      |cons c l ih=>simp only[flatCells,List.map_cons,List.flatMap_cons] at ih ⊢;rw[ih];rfl
     rw[hflat] at hj
     refine g3 j v ?_
     show (bytesRow s cap)[j]? = some v
     have hlt:j<s.data.size:=by have:=(List.getElem?_eq_some_iff.1 hj).1;simpa using this
     simp only[bytesRow]
     rw[Array.getElem?_append_left (by simpa using hlt)]
     simpa using hj
   have hrep:=Rep_slice_mk (cap:=cap) hE (by rw[hl];exact hcap1) hcap2
   rw[hl] at hrep
   refine ⟨_,_,G',.inl ?_,by simpa [RepSV,RepSC] using hrep,g1,(g2.weaken (fun _ h=>h.elim) (fun _ h=>h)).drew,(by simp),fun t' ht=>.inl (by rw[←g5];exact ht),fun n hn=>.inl (by rw[←g6];exact hn)⟩
   simp only[execOp,ho,hr,Sem.run_bind,hrun,Result.andThen_ok,Sem.run_pure]
   rfl
  ·cases hp
 ·cases hp
theorem bytesPV_spec:∀{es:List PV}{ns:List Int},bytesPV? es=some ns→es=ns.map (PV.int .u8)
 | [],ns,h=>by simp[bytesPV?] at h;subst h;rfl
 | .int .u8 n::r,ns,h=>by
  simp only[bytesPV?,Option.map_eq_some_iff] at h
  obtain ⟨ms,h1,rfl⟩:=h
  rw[bytesPV_spec h1];rfl
 | .bool _::_,_,h=>by simp[bytesPV?] at h
 | .int .i64 _::_,_,h=>by simp[bytesPV?] at h
 | .int .i32 _::_,_,h=>by simp[bytesPV?] at h
 | .int .i16 _::_,_,h=>by simp[bytesPV?] at h
 | .int .i8 _::_,_,h=>by simp[bytesPV?] at h
 | .int .u64 _::_,_,h=>by simp[bytesPV?] at h
 | .int .u32 _::_,_,h=>by simp[bytesPV?] at h
 | .int .u16 _::_,_,h=>by simp[bytesPV?] at h
 | .str _::_,_,h=>by simp[bytesPV?] at h
 | .nilp::_,_,h=>by simp[bytesPV?] at h
 | .ep _ _::_,_,h=>by simp[bytesPV?] at h
 | .slice _::_,_,h=>by simp[bytesPV?] at h
 | .agg _::_,_,h=>by simp[bytesPV?] at h
 | .tuple _::_,_,h=>by simp[bytesPV?] at h
 | .fn _ _::_,_,h=>by simp[bytesPV?] at h
 | .nilfn::_,_,h=>by simp[bytesPV?] at h
 | .nili::_,_,h=>by simp[bytesPV?] at h
 | .err::_,_,h=>by simp[bytesPV?] at h
 | .fx _ _::_,_,h=>by simp[bytesPV?] at h
 | .fxc _ _::_,_,h=>by simp[bytesPV?] at h
 | .ifc _ _::_,_,h=>by simp[bytesPV?] at h
 | .nilsl::_,_,h=>by simp[bytesPV?] at h
theorem op_convB {src dst:TypeId}{x:Operand}{a p:PV}(hW:WInv G w) (ho:o.op=.convert src dst x) (ha:(ρ x).pv? = some a) (hp:convB (cvTOf P src) (cvTOf P dst) a=some p) (hρ:∀x,RepSV G used (ρ x) (act.eval x)) :
  OpRes P o act w G used (.one (.pv p)) [] []:=by
 have hr:=SV.pv_rep (hρ x) ha
 unfold convB at hp
 split at hp
 ·rename_i es hS hD
  split at hp
  ·cases hp
  ·rename_i hne
   simp only[Option.map_eq_some_iff] at hp
   obtain ⟨ns,hns,rfl⟩:=hp
   have hes:=bytesPV_spec hns
   obtain ⟨e,hk,hke⟩:=cvTOf_bytes hS
   have hd:=cvTOf_string hD
   rw[Rep] at hr
   obtain ⟨ad,len,cap,k,hv,rfl,_,_,h5⟩:=hr
   rcases h5 with h5|⟨b,o',rfl,h6⟩
   ·exact absurd (by rw[h5];rfl) hne
   have hkk:k=.one:=by
    cases es with
    |nil=>exact absurd rfl hne
    |cons e0 r=>
     have:e0=PV.int .u8 (ns.headD 0):=by cases ns with
      |nil=>simp at hes
      |cons n ns=>simp at hes;exact hes.1
     rw[RepE] at h6
     obtain ⟨⟨u,g1,g2,_⟩,_⟩:=h6
     rw[this,Rep] at g1
     subst g1
     cases k with
     |one=>rfl
     |agg n=>simp[Sz.okV] at g2
   subst hkk
   have hload:(loadCells ⟨b,o',none⟩ es.length).run P w=.ok (ns.map (Value.int .u8)).toArray w:=by
    have hl:es.length=(ns.map (Value.int .u8)).length:=by rw[hes];simp
    rw[hl]
    refine run_loadCells_list w _ _ fun j v hj=>?_
    simp only[List.getElem?_map,Option.map_eq_some_iff] at hj
    obtain ⟨n,hj,rfl⟩:=hj
    have hej:es[j]? = some (PV.int .u8 n):=by rw[hes];simp[hj]
    obtain ⟨u,g1,_,g3⟩:=h6.get j _ hej
    rw[Rep] at g1
    subst g1
    have:=hW.imm _ _ _ (g3 0 _ rfl)
    rw[add_none]
    simpa [Sz.size,Value.cells] using this
   refine OpRes.quiet hW (.string (ns.foldl (fun r n=>r.push (UInt8.ofNat n.toNat)) ByteArray.empty)) ?_ (by simp only[RepSV,RepSC,Rep])
   simp only[execOp,ho,hv,Sem.run_bind,run_convert_bytes_string w src dst e _ _ _ hk hke hd,run_bytesToString w _ _ cap ns hload,Result.andThen_ok,Sem.run_pure]
 ·cases hp
/-! Slices -/
theorem bounds_run {len cap l h:Nat}{full b:Bool}{lo hi mx:Option Operand}(hlc:len≤cap) (hρ:∀x,RepSV G used (ρ x) (act.eval x)) (hb:boundsOf len (lo.map ρ) (hi.map ρ) (mx.map ρ)=some (l,h,full)) :
  (Instr.sliceBounds b len cap (lo.map act.eval) (hi.map act.eval) (mx.map act.eval)).run P w=.ok (l,h,if full then h else cap) w∧l≤h∧h≤len∧(full=true→mx.isSome=true)∧(full=false→mx=none):=by
 have low:∀(x:Operand) (n:Int) (y:Nat) (c:BoundsCode),intOf? (ρ x)=some n→0≤n→n≤y→(Instr.sliceBound (act.eval x) y c).run P w=.ok n.toNat w:=by
  intro x n y c hx h0 h1
  obtain ⟨k,hk⟩:=intOf_rep (hρ x) hx
  simp[Instr.sliceBound,hk,asIntOf,h0,h1]
 unfold boundsOf at hb
 cases mx with
 |none=>
  cases lo with
  |none=>
   cases hi with
   |none=>
    simp at hb
    obtain ⟨rfl,rfl,rfl⟩:=hb
    simp[Instr.sliceBounds]
   |some hi=>
    simp only[Option.map_none,Option.map_some] at hb
    cases hx:intOf? (ρ hi) with
    |none=>simp[hx] at hb
    |some n=>
     simp only[hx] at hb
     split at hb
     ·rename_i h0
      cases hb
      have:=low hi n cap (if b then .sliceAcap else .sliceAlen) hx (by omega) (by omega)
      refine ⟨?_,by simp,by omega,by simp,by simp⟩
      simp[Instr.sliceBounds,this]
     ·cases hb
  |some lo=>
   simp only[Option.map_none,Option.map_some] at hb
   cases hlx:intOf? (ρ lo) with
   |none=>simp[hlx] at hb
   |some m=>
    cases hi with
    |none=>
     simp only[hlx,Option.map_none] at hb
     split at hb
     ·rename_i h0
      cases hb
      have:=low lo m len .sliceB hlx (by omega) (by omega)
      refine ⟨?_,by omega,by omega,by simp,by simp⟩
      simp[Instr.sliceBounds,this]
     ·cases hb
    |some hi=>
     simp only[hlx,Option.map_some] at hb
     cases hx:intOf? (ρ hi) with
     |none=>simp[hx] at hb
     |some n=>
      simp only[hx] at hb
      split at hb
      ·rename_i h0
       cases hb
       have h1:=low hi n cap (if b then .sliceAcap else .sliceAlen) hx (by omega) (by omega)
       have h2:=low lo m n.toNat .sliceB hlx (by omega) (by omega)
       refine ⟨?_,by omega,by omega,by simp,by simp⟩
       simp[Instr.sliceBounds,h1,h2]
      ·cases hb
 |some mx=>
  cases hi with
  |none=>cases lo<;>simp at hb<;>split at hb<;>simp_all
  |some hi=>
   cases hmx:intOf? (ρ mx) with
   |none=>cases lo<;>simp[hmx] at hb<;>split at hb<;>simp_all
   |some q=>
    cases hx:intOf? (ρ hi) with
    |none=>cases lo<;>simp[hx] at hb
    |some n=>
     cases lo with
     |none=>
      simp only[Option.map_none,Option.map_some,hmx,hx] at hb
      split at hb
      ·rename_i h0
       cases hb
       have h1:=low mx q cap (if b then .slice3Acap else .slice3Alen) hmx (by omega) (by omega)
       have h2:=low hi n q.toNat .slice3B hx (by omega) (by omega)
       refine ⟨?_,by omega,by omega,by simp,by simp⟩
       obtain ⟨_,_,_,rfl⟩:=h0
       simp[Instr.sliceBounds,h1,h2]
      ·cases hb
     |some lo=>
      cases hlx:intOf? (ρ lo) with
      |none=>simp[hlx] at hb
      |some m=>
       simp only[Option.map_some,hmx,hx,hlx] at hb
       split at hb
       ·rename_i h0
        cases hb
        have h1:=low mx q cap (if b then .slice3Acap else .slice3Alen) hmx (by omega) (by omega)
        have h2:=low hi n q.toNat .slice3B hx (by omega) (by omega)
        have h3:=low lo m n.toNat .slice3C hlx (by omega) (by omega)
        refine ⟨?_,by omega,by omega,by simp,by simp⟩
        obtain ⟨_,_,_,rfl⟩:=h0
        simp[Instr.sliceBounds,h1,h2,h3]
       ·cases hb
end ops
end Go.Abs
namespace Go.Abs
open Go
section ops
variable {P:Program}{o:Oper}{act:Act}{w:World}{G:Gh}{used:List Nat}{ρ:Operand→SV}{bx:Nm→Option Box}
theorem op_sliceStr {t:TypeId}{x:Operand}{lo hi mx:Option Operand}{s:ByteArray}{l h:Nat}(hW:WInv G w) (ho:o.op=.slice t x lo hi mx) (hx:(ρ x).pv? = some (.str s)) (ht:eqTOf P t=.str)
  (hb:boundsOf s.size (lo.map ρ) (hi.map ρ) (mx.map ρ)=some (l,h,false)) (hρ:∀x,RepSV G used (ρ x) (act.eval x)):OpRes P o act w G used (.one (.pv (.str (s.extract l h)))) [] []:=by
 have hr:=SV.pv_rep (hρ x) hx
 simp only[Rep] at hr
 have hu:=eqTOf_str ht
 obtain ⟨h1,_,_,_,h2⟩:=bounds_run (P:=P) (w:=w) (b:=false) (Nat.le_refl _) hρ hb
 have hm:=h2 rfl
 subst hm
 refine OpRes.quiet hW (.string (s.extract l h)) ?_ (by simp[RepSV,RepSC,Rep])
 simp only[Option.map_none] at h1
 simp[execOp,ho,Instr.sliceAt,run_underlying hu,Instr.slice,hr,h1]
theorem all_hasSz {k:Sz}{es:List PV}(h:es.all (·.hasSz k)=true):∀e∈es,e.hasSz k=true:=by
 simpa [List.all_eq_true] using h
theorem RepE_shape {I:Imm}{k k':Sz}{es:List PV}{b o:Nat}(h:RepE I k' es b o) (hne:es≠[]) (hk:∀e∈es,e.hasSz k=true):k'=k:=by
 cases es with
 |nil=>exact absurd rfl hne
 |cons e es=>
  rw[RepE] at h
  obtain ⟨⟨u,h1,h2,_⟩,_⟩:=h
  exact okV_unique h2 (hasSz_ok h1 (hk e (by simp)))
theorem op_sliceSl {t:TypeId}{x:Operand}{lo hi mx:Option Operand}{es:List PV}{k:Sz}{bytes l h:Nat}{full:Bool}(ho:o.op=.slice t x lo hi mx) (hx:(ρ x).pv? = some (.slice es)) (hs:elemSz P t=some (k,bytes))
  (hall:es.all (·.hasSz k)=true) (hb:boundsOf es.length (lo.map ρ) (hi.map ρ) (mx.map ρ)=some (l,h,full)) (hρ:∀x,RepSV G used (ρ x) (act.eval x)) :
  ∃a cap,(execOp act.eval o).run P w=.ok (.value (.slice a ((es.take h).drop l).length cap)) w∧Rep G.I (.slice ((es.take h).drop l)) (.slice a ((es.take h).drop l).length cap)∧(full=true→cap=((es.take h).drop l).length) ∧
   (full=true→TkOk G w ⟨.slice a ((es.take h).drop l).length cap,k,none,none⟩):=by
 obtain ⟨e,inf,z,hu,hsz,hinf,hsi,_,hpos,hzv,hzo⟩:=elemSz_spec hs
 have hr:=SV.pv_rep (hρ x) hx
 rw[Rep] at hr
 obtain ⟨a,len,cap,k',hv,rfl,hlc,hcm,h5⟩:=hr
 obtain ⟨h1,hlh,hhl,_,_⟩:=bounds_run (P:=P) (w:=w) (b:=true) hlc hρ hb
 have hlen:((es.take h).drop l).length=h - l:=by simp;omega
 have hmh:h≤(if full then h else cap):=by split<;>omega
 have hmc:(if full then h else cap)≤cap:=by split<;>omega
 generalize hm:(if full then h else cap)=m at h1 hmh hmc
 have hrun:(execOp act.eval o).run P w=.ok (.value (.slice (if m=l then a else a.map (·.add (l*k.size))) (h - l) (m - l))) w:=by
  simp only[execOp,ho,Instr.sliceAt,Sem.run_bind,run_underlying hu,Result.andThen_ok,Instr.slice,hv,h1,run_sizeOf_sz hsz,Sem.run_pure]
 have hrep:Rep G.I (.slice ((es.take h).drop l)) (.slice (if m=l then a else a.map (·.add (l*k.size))) (h - l) (m - l)):=by
  rw[Rep]
  refine ⟨_,_,_,k,rfl,hlen.symm,by omega,by omega,?_⟩
  by_cases hz:(es.take h).drop l=[]
  ·exact .inl hz
  ·right
   rcases h5 with h5|⟨b,o',rfl,h6⟩
   ·subst h5;simp at hz
   have hne:es≠[]:=fun e=>by subst e;simp at hz
   have hkk:=RepE_shape h6 hne (all_hasSz hall)
   subst hkk
   have hl2:l<h:=by
    apply Nat.lt_of_not_le
    intro hle
    apply hz
    exact List.eq_nil_of_length_eq_zero (by rw[hlen];omega)
   refine ⟨b,o'+l*k'.size,?_,(h6.take h).drop l (by simp;omega)⟩
   rw[if_neg (by omega)]
   simp[add_none]
 rw[←hlen] at hrun hrep
 refine ⟨_,_,hrun,hrep,fun hf=>?_,fun hf=>?_⟩
 ·rw[hlen,←hm,hf];simp
 ·subst hf
  refine ⟨_,_,_,rfl,by rw[hlen,←hm];simp,by omega,?_⟩
  show m - l=_
  rw[hlen,←hm];simp
theorem op_slice_plain {t:TypeId}{x:Operand}{lo hi mx:Option Operand}{es:List PV}{k:Sz}{bytes l h:Nat}{full:Bool}(hW:WInv G w) (ho:o.op=.slice t x lo hi mx) (hx:(ρ x).pv? = some (.slice es)) (hs:elemSz P t=some (k,bytes))
  (hall:es.all (·.hasSz k)=true) (hb:boundsOf es.length (lo.map ρ) (hi.map ρ) (mx.map ρ)=some (l,h,full)) (hρ:∀x,RepSV G used (ρ x) (act.eval x)):OpRes P o act w G used (.one (.pv (.slice ((es.take h).drop l)))) [] []:=by
 obtain ⟨a,cap,h1,h2,_,_⟩:=op_sliceSl ho hx hs hall hb hρ
 exact OpRes.quiet hW _ h1 (by simpa [RepSV,RepSC] using h2)
theorem op_slice_full {d:Nat}{t:TypeId}{x:Operand}{lo hi mx:Option Operand}{es:List PV}{k:Sz}{bytes l h:Nat}(hW:WInv G w) (ho:o.op=.slice t x lo hi mx) (hd:o.dst=some d) (hx:(ρ x).pv? = some (.slice es)) (hs:elemSz P t=some (k,bytes))
  (hall:es.all (·.hasSz k)=true) (hb:boundsOf es.length (lo.map ρ) (hi.map ρ) (mx.map ρ)=some (l,h,true)) (hfr:G.tok (2*d+1)=none) (hρ:∀x,RepSV G used (ρ x) (act.eval x)) :
  OpRes P o act w G used (.one (.own (2*d+1) k ((es.take h).drop l))) [] [2*d]:=by
 obtain ⟨a,cap,h1,h2,h3,h4⟩:=op_sliceSl ho hx hs hall hb hρ
 obtain ⟨G',g1,g2,g3,g4,g5,g6⟩:=name_tok hW (2*d+1) hfr ⟨.slice a ((es.take h).drop l).length cap,k,none,none⟩ rfl (h4 rfl) (·∈[2*d])
 refine ⟨_,w,G',.inl h1,⟨by rw[g3];exact h2,fun e he=>all_hasSz hall e (List.mem_of_mem_take (List.mem_of_mem_drop he)),fun _=>⟨_,g4,rfl,rfl,rfl⟩⟩,g1,g2.weaken (fun _ h=>h.elim) (fun _ h=>h),(by simp),fun t' ht=>(g5 t' ht).imp id (fun e=>by simp[tokOf,hd,e]),fun n hn=>.inl (by rw[←g6];exact hn)⟩
theorem op_len {T:TypeId}{x:Operand}{n:Int}(hW:WInv G w) (ho:o.op=.call {callee:=.builtin .len,args:=#[x],argTypes:=#[T]}) (hn:aLen P T (ρ x)=some n) (hρ:∀x,RepSV G used (ρ x) (act.eval x)) :
  OpRes P o act w G used (.one (.pv (.int .i64 n))) [] []:=by
 refine OpRes.quiet hW (.int .i64 n) ?_ (by simp[RepSV,RepSC,Rep])
 unfold aLen at hn
 split at hn
 ·rename_i q es e hx he
  cases hn
  have hr:=SV.pv_rep (hρ x) hx
  rw[Rep] at hr
  obtain ⟨a,len,cap,k',hv,rfl,hlc,hcm,h5⟩:=hr
  have hu:P.underlying T=some (.slice e):=by
   unfold elemOf at he
   split at he
   ·rename_i e' hh;cases he;exact hh
   ·cases he
  simp[execOp,ho,resolve,invoke,builtin,Builtin.len_,run_underlying hu,hv,goInt]
 ·rename_i q e hx he
  cases hn
  have hr:=SV.pv_rep (hρ x) hx
  rw[Rep] at hr
  have hu:P.underlying T=some (.slice e):=by
   unfold elemOf at he
   split at he
   ·rename_i e' hh;cases he;exact hh
   ·cases he
  simp[execOp,ho,resolve,invoke,builtin,Builtin.len_,run_underlying hu,hr,goInt]
 ·rename_i s q hx ht
  cases hn
  have hr:=SV.pv_rep (hρ x) hx
  simp only[Rep] at hr
  have hu:=eqTOf_str ht
  simp[execOp,ho,resolve,invoke,builtin,Builtin.len_,run_underlying hu,hr,goInt]
 ·cases hn
theorem op_len_row {T e:TypeId}{x:Operand}{n:Nm}{m:Nat}(hW:WInv G w) (ho:o.op=.call {callee:=.builtin .len,args:=#[x],argTypes:=#[T]}) (hx:ρ x=.one (.rw n m)) (he:elemOf P T=some e) (hρ:∀x,RepSV G used (ρ x) (act.eval x)) :
  OpRes P o act w G used (.one (.pv (.int .i64 m))) [] []:=by
 refine OpRes.quiet hW (.int .i64 m) ?_ (by simp[RepSV,RepSC,Rep])
 have hr:=hρ x
 rw[hx] at hr
 simp only[RepSV,RepSC] at hr
 obtain ⟨b,cap,hb,hv,_⟩:=hr
 have hu:P.underlying T=some (.slice e):=by
  unfold elemOf at he
  split at he
  ·rename_i e' hh;cases he;exact hh
  ·cases he
 simp[execOp,ho,resolve,invoke,builtin,Builtin.len_,run_underlying hu,hv,goInt]
theorem op_len_ex {T e:TypeId}{x:Operand}{t:Nat}{k:Sz}{es:List PV}(hW:WInv G w) (ho:o.op=.call {callee:=.builtin .len,args:=#[x],argTypes:=#[T]}) (hx:ρ x=.one (.ex t k es)) (he:elemOf P T=some e) (hρ:∀x,RepSV G used (ρ x) (act.eval x)) :
  OpRes P o act w G used (.one (.pv (.int .i64 es.length))) [] []:=by
 refine OpRes.quiet hW (.int .i64 es.length) ?_ (by simp[RepSV,RepSC,Rep])
 have hr:=hρ x
 rw[hx] at hr
 simp only[RepSV,RepSC] at hr
 obtain ⟨⟨a,cap,hv⟩,_⟩:=hr
 have hu:P.underlying T=some (.slice e):=by
  unfold elemOf at he
  split at he
  ·rename_i e' hh;cases he;exact hh
  ·cases he
 simp[execOp,ho,resolve,invoke,builtin,Builtin.len_,run_underlying hu,hv,goInt]
theorem op_min {tys:Array TypeId}{x y:Operand}{k:IntKind}{a b:Int}(hW:WInv G w) (ho:o.op=.call {callee:=.builtin .min,args:=#[x,y],argTypes:=tys}) (hx:ρ x=.one (.pv (.int k a))) (hy:ρ y=.one (.pv (.int k b)))
  (hρ:∀x,RepSV G used (ρ x) (act.eval x)):OpRes P o act w G used (.one (.pv (.int k (if b<a then b else a)))) [] []:=by
 have h1:=hρ x
 have h2:=hρ y
 rw[hx] at h1
 rw[hy] at h2
 simp only[RepSV,RepSC,Rep] at h1 h2
 refine OpRes.quiet hW (.int k (if b<a then b else a)) ?_ (by simp[RepSV,RepSC,Rep])
 simp[execOp,ho,resolve,invoke,builtin,Builtin.min_,Builtin.min2,h1,h2]
theorem op_max {tys:Array TypeId}{x y:Operand}{k:IntKind}{a b:Int}(hW:WInv G w) (ho:o.op=.call {callee:=.builtin .max,args:=#[x,y],argTypes:=tys}) (hx:ρ x=.one (.pv (.int k a))) (hy:ρ y=.one (.pv (.int k b)))
  (hρ:∀x,RepSV G used (ρ x) (act.eval x)):OpRes P o act w G used (.one (.pv (.int k (if b>a then b else a)))) [] []:=by
 have h1:=hρ x
 have h2:=hρ y
 rw[hx] at h1
 rw[hy] at h2
 simp only[RepSV,RepSC,Rep] at h1 h2
 refine OpRes.quiet hW (.int k (if b>a then b else a)) ?_ (by simp[RepSV,RepSC,Rep])
 simp[execOp,ho,resolve,invoke,builtin,Builtin.max_,Builtin.max2,h1,h2]
/-! append -/
theorem firstCells_rep {ys:List PV}{v:Value}{k:Sz}(hW:WInv G w) (hr:Rep G.I (.slice ys) v) (hk:∀e∈ys,e.hasSz k=true) :
  ∃a cap vs,v=.slice a ys.length cap∧ys.length≤cap∧cap≤maxLen∧RepL G.I ys vs∧(∀x∈vs,k.okV x=true)∧(flatCells vs).length=ys.length*k.size ∧
   (Builtin.firstCells k.size ys.length v).run P w=.ok (flatCells vs).toArray w∧(Builtin.firstCells k.size ys.length v).run P w.drew=.ok (flatCells vs).toArray w.drew ∧
   (ys≠[]→∃b o,a=some ⟨b,o,none⟩∧∀(j:Nat) (x:Value),(flatCells vs)[j]? = some x→G.I b (o+j)=some x):=by
 rw[Rep] at hr
 obtain ⟨a,len,cap,k',rfl,rfl,hlc,hcm,h5⟩:=hr
 by_cases hne:ys=[]
 ·subst hne
  refine ⟨a,cap,[],rfl,hlc,hcm,by simp[RepL],by simp,by simp[flatCells],?_,?_,fun h=>absurd rfl h⟩
  ·cases a<;>simp[Builtin.firstCells,flatCells,loadCells,loadCellsFrom]
  ·cases a<;>simp[Builtin.firstCells,flatCells,loadCells,loadCellsFrom]
 ·rcases h5 with h5|⟨b,o',rfl,h6⟩
  ·exact absurd h5 hne
  have hkk:=RepE_shape h6 hne hk
  subst hkk
  obtain ⟨vs,h7,h8,h9⟩:=flat_of_RepE h6
  have hl:(flatCells vs).length=ys.length*k'.size:=by rw[flat_length h8,h7.length]
  have hc:∀(j:Nat) (x:Value),(flatCells vs)[j]? = some x→w.cell? ((⟨b,o',none⟩:Addr).add j)=some x:=fun j x hj=>by rw[add_none];exact hW.imm _ _ _ (h9 j x hj)
  refine ⟨some ⟨b,o',none⟩,cap,vs,rfl,hlc,hcm,h7,h8,hl,?_,?_,fun _=>⟨b,o',rfl,h9⟩⟩
  ·exact run_firstCells_some w k'.size ys.length ⟨b,o',none⟩ ys.length cap (flatCells vs) hl hc
  ·exact run_firstCells_some w.drew k'.size ys.length ⟨b,o',none⟩ ys.length cap (flatCells vs) hl (fun j x hj=>by simpa using hc j x hj)
theorem append_exec {T:TypeId}{s x:Operand}{r:Value}{w':World}(ho:o.op=.call {callee:=.builtin .append,args:=#[s,x],argTypes:=#[T,T]})
  (h:(Builtin.append_ #[T,T] o.type #[act.eval s,act.eval x]).run P w=.ok r w'):(execOp act.eval o).run P w=.ok (.value r) w':=by
 simp only[execOp,ho,resolve,invoke,builtin,Sem.run_bind,Sem.run_pure,Result.andThen_ok,List.map_toArray,List.map_cons,List.map_nil,h]
theorem run_append_grow' {t ty e:TypeId}{i:TypeInfo}{z:Value}(ht:P.underlying t=some (.slice e)) (hi:P.info? e=some i) (hz:i.zero=some z) {a b:Option Addr}{n m cap c:Nat}{olds news:List Value}
  (hf:(Builtin.firstCells i.size m (.slice b m c)).run P w.drew=.ok news.toArray w.drew) (hfo:(Builtin.firstCells i.size n (.slice a n cap)).run P w.drew=.ok olds.toArray w.drew)
  (hg:cap<n+m) (h63:n+m≤maxLen) (hfit:(n+m)*i.bytes≤140737488355328) :
  (Builtin.append_ #[t,t] ty #[.slice a n cap,.slice b m c]).run P w =
   .ok (.slice (some ⟨w.heap.size,0,none⟩) (n+m) (grownCap w (n+m) cap e)) (w.drew.alloc (.cells (olds.toArray++news.toArray++Builtin.zeroCells z.cells (grownCap w (n+m) cap e - (n+m))) e)):=by
 have hn:¬(n+m≤cap):=by omega
 have h63':¬(9223372036854775807<((n:Int)+(m:Int))):=by unfold maxLen at h63;omega
 have h48':¬(281474976710656<Builtin.nextslicecap (n+m) cap*i.bytes):=by have:=growslice_fits hg hfit;omega
 simp[Builtin.append_,run_underlying ht,sizeOf,typeInfo,zeroValue,hi,hz,Builtin.lenOf,hn,h63',h48',Question.forced,hf,hfo,newRow,grownCap]
 congr 2
 apply Array.ext'
 simp[List.append_assoc]
theorem run_append_here {t ty e:TypeId}{i:TypeInfo}(ht:P.underlying t=some (.slice e)) (hi:P.info? e=some i) {a b:Option Addr}{n m cap c:Nat}{news:List Value}{w':World}
  (hf:(Builtin.firstCells i.size m (.slice b m c)).run P w=.ok news.toArray w) (hg:n+m≤cap)
  (hst:a=none∧w'=w∨∃ad,a=some ad∧(storeCells (ad.add (n*i.size)) news).run P w=.ok () w') :
  (Builtin.append_ #[t,t] ty #[.slice a n cap,.slice b m c]).run P w=.ok (.slice a (n+m) cap) w':=by
 rcases hst with ⟨rfl,rfl⟩|⟨ad,rfl,hst⟩
 ·simp[Builtin.append_,run_underlying ht,sizeOf,typeInfo,hi,Builtin.lenOf,hg,hf]
 ·simp[Builtin.append_,run_underlying ht,sizeOf,typeInfo,hi,Builtin.lenOf,hg,hf,hst]
theorem append_core {T:TypeId}{es ys:List PV}{k:Sz}{bytes:Nat}{sv xv:Value}{t0:Nat}{us:List Nat}{tk:Tk}(ty:TypeId) (hW:WInv G w) (hs:elemSz P T=some (k,bytes))
  (hsr:Rep G.I (.slice es) sv) (hse:∀e∈es,e.hasSz k=true) (hxr:Rep G.I (.slice ys) xv) (hxe:∀e∈ys,e.hasSz k=true) (hbytes:(es.length+ys.length)*bytes≤140737488355328) (hmax:es.length+ys.length≤maxLen)
  (htk:TkOk G w tk) (hhdr:tk.hdr=sv) (htkk:tk.k=k) (htkx:tk.x=none) (hlive:∀g,tk.g=some g→∃t∈us,G.tok t=some tk) (ht0:G.tok t0=none) :
  ∃v w' G',(Builtin.append_ #[T,T] ty #[sv,xv]).run P w=.ok v w'∧Rep G'.I (.slice (es++ys)) v∧(∃tk',G'.tok t0=some tk'∧tk'.hdr=v∧tk'.k=k∧tk'.x=none)∧WInv G' w'∧Ext G G' w w' (fun _=>False) (·∈us) ∧
   (∀t,G'.tok t≠none→G.tok t≠none∨t=t0)∧G'.blk=G.blk:=by
 obtain ⟨e,inf,z,hu,hsz,hinf,hsi,hby,hpos,hzv,hzo⟩:=elemSz_spec hs
 obtain ⟨xa,xc,yv,rfl,hyl,hym,hyr,hyo,hyf,hy1,hy2,hy3⟩:=firstCells_rep (P:=P) hW hxr hxe
 obtain ⟨sa,sc,ev,rfl,hel,hem,her,heo,hef,he1,he2,he3⟩:=firstCells_rep (P:=P) hW hsr hse
 subst hby
 have hzs:z.cells.size=k.size:=Sz.size_of_ok hzo
 have hflat:flatCells (ev++yv)=flatCells ev++flatCells yv:=by simp[flatCells]
 have hok:∀x∈ev++yv,k.okV x=true:=fun x hx=>(List.mem_append.1 hx).elim (heo x) (hyo x)
 by_cases hroom:es.length+ys.length≤sc
 ·obtain ⟨a,len,cap,hh,hlc,hcm,hg⟩:=htk
  rw[hhdr] at hh
  cases hh
  cases htg:tk.g with
  |none=>
   rw[htg] at hg
   simp only at hg
   have hy0:ys=[]:=List.eq_nil_of_length_eq_zero (by omega)
   subst hy0
   have hyv:yv=[]:=by rw[RepL] at hyr;exact hyr
   subst hyv
   obtain ⟨G',g1,g2,g3,g4,g5,g6⟩:=name_tok hW t0 ht0 tk htg ⟨_,_,_,hhdr,hlc,hcm,by rw[htg];exact hg⟩ (·∈us)
   refine ⟨.slice sa (es.length+0) sc,w,G',?_,?_,⟨tk,g4,by simpa using hhdr,htkk,htkx⟩,g1,g2,g5,g6⟩
   ·refine run_append_here hu hinf (news:=[]) (by rw[hsi];simpa [flatCells] using hy1) (by simpa using hroom) ?_
    cases sa with
    |none=>exact .inl ⟨rfl,rfl⟩
    |some ad=>exact .inr ⟨ad,rfl,by simp[storeCells]⟩
   ·rw[g3];simpa using hsr
  |some g=>
   rw[htg] at hg
   simp only at hg
   obtain ⟨cur,T',rfl,hgh,hcs,hfree,_⟩:=hg
   obtain ⟨t,htu,htt⟩:=hlive g htg
   rw[htkk] at hcs hfree
   have htk2:tk=⟨.slice (some ⟨g,0,none⟩) es.length sc,k,some g,none⟩:=by
    cases tk;simp only at hhdr htkk htg htkx;subst hhdr;subst htkk;subst htg;subst htkx;rfl
   rw[htk2] at htt
   obtain ⟨G',g1,g2,g3,g4,g5,g6⟩:=grow_row hW t t0 ht0 k g es.length sc cur T' htt hgh hcs ys.length (flatCells yv) hyf hroom us htu
   refine ⟨.slice (some ⟨g,0,none⟩) (es.length+ys.length) sc,_,G',?_,?_,⟨_,g4,rfl,rfl,rfl⟩,g1,g2,g5,g6⟩
   ·refine run_append_here hu hinf (news:=flatCells yv) (by rw[hsi];exact hy1) hroom (.inr ⟨_,rfl,?_⟩)
    rw[add_none,Nat.zero_add,hsi]
    have hk1:es.length*k.size+(flatCells yv).length≤cur.size:=by rw[hyf,hcs,←Nat.add_mul];exact Nat.mul_le_mul_right _ hroom
    have:=run_storeCells_at P g (es.length*k.size) T' (flatCells yv) 0 cur w hgh (by simpa using hk1) (flat_one hyo)
    simpa using this
   ·have hE:RepE G'.I k (es++ys) g 0:=by
     refine RepE_of_flat (vs:=ev++yv) (RepL.mono g2.I _ _ (her.append hyr)) hok fun j x hj=>?_
     rw[Nat.zero_add]
     rw[hflat] at hj
     by_cases hjl:j<(flatCells ev).length
     ·rw[List.getElem?_append_left hjl] at hj
      have hne:es≠[]:=fun h0=>by subst h0;rw[hef] at hjl;simp at hjl
      obtain ⟨b,o',hb,hb2⟩:=he3 hne
      cases hb
      have:=g2.I _ _ _ (hb2 j x hj)
      simpa using this
     ·rw[List.getElem?_append_right (by omega)] at hj
      have:=g3 _ _ hj
      rw[hef] at this hjl
      rw[show es.length*k.size+(j - es.length*k.size)=j from by omega] at this
      exact this
    have:=Rep_slice_mk (cap:=sc) hE (by simpa using hroom) hem
    simpa using this
 ·have hge:=grownCap_ge w (es.length+ys.length) sc e
  have hcm:=grownCap_le_maxLen w (es.length+ys.length) sc e hmax
  have hrun:=run_append_grow' (P:=P) (w:=w) (ty:=ty) hu hinf hzv (a:=sa) (b:=xa) (n:=es.length) (m:=ys.length) (cap:=sc) (c:=xc) (olds:=flatCells ev) (news:=flatCells yv) (by rw[hsi];exact hy2) (by rw[hsi];exact he2) (by omega) hmax hbytes
  generalize grownCap w (es.length+ys.length) sc e=nc at hge hcm hrun
  have hcsz:((flatCells ev).toArray++(flatCells yv).toArray++Builtin.zeroCells z.cells (nc - (es.length+ys.length))).size=nc*k.size:=by
   simp only[Array.size_append,List.size_toArray,size_zeroCells,hzs,hef,hyf,←Nat.add_mul]
   congr 1;omega
  obtain ⟨G',g1,g2,g3,g4,g5,g6⟩:=lay_row (w:=w.drew) hW.drew _ e (es.length+ys.length) nc k t0 ht0 hge hcm hcsz true (fun h=>by cases h)
  refine ⟨_,_,G',hrun,?_,⟨_,g4,rfl,rfl,rfl⟩,g1,(g2.weaken (fun _ h=>h) (fun _ h=>by simp at h)).drew,g5,g6⟩
  have hE:RepE G'.I k (es++ys) w.heap.size 0:=by
   refine RepE_of_flat (vs:=ev++yv) (RepL.mono g2.I _ _ (her.append hyr)) hok fun j x hj=>?_
   rw[Nat.zero_add]
   have hjl:j<(es.length+ys.length)*k.size:=by
    have:=(List.getElem?_eq_some_iff.1 hj).1
    rw[hflat,List.length_append,hef,hyf,←Nat.add_mul] at this
    exact this
   refine g3 j x hjl ?_
   rw[Array.getElem?_append_left (by simp only[Array.size_append,List.size_toArray,hef,hyf,←Nat.add_mul];exact hjl)]
   rw[hflat] at hj
   simpa using hj
  have:=Rep_slice_mk (cap:=nc) hE (by simpa using hge) hcm
  simpa using this
/-! append onto a slice that nobody else may read -/
theorem lay_row_x {G:Gh}{w:World}(hW:WInv G w) (cells:Array Value) (T:TypeId) (len cap:Nat) (k:Sz) (t0:Nat) (ht0:G.tok t0=none)
  (hlc:len≤cap) (hm:cap≤maxLen) (hs:cells.size=cap*k.size) (cs:List Value) (hc:∀(j:Nat) (v:Value),cs[j]? = some v→cells[j]? = some v) :
  ∃G',WInv G' (w.alloc (.cells cells T))∧Ext G G' w (w.alloc (.cells cells T)) (fun _=>False) (·∈([]:List Nat)) ∧
   G'.tok t0=some ⟨.slice (some ⟨w.heap.size,0,none⟩) len cap,k,some w.heap.size,some cs⟩ ∧
   (∀t,G'.tok t≠none→G.tok t≠none∨t=t0)∧G'.blk=G.blk∧G'.I=G.I:=by
 let tk0:Tk:=⟨.slice (some ⟨w.heap.size,0,none⟩) len cap,k,some w.heap.size,some cs⟩
 let G':Gh:=⟨G.I,G.blk,fun t=>if t=t0 then some tk0 else G.tok t,G.cap⟩
 have hno:∀o,G.I w.heap.size o=none:=by
  intro o
  cases hv:G.I w.heap.size o with
  |none=>rfl
  |some v=>have:=imm_lt hW hv;omega
 have hE:Ext G G' w (w.alloc (.cells cells T)) (fun _=>False) (·∈([]:List Nat)):=by
  refine ⟨Imm.le_refl _,fun b o v hv=>.inl hv,fun _ _=>rfl,fun _ _ h=>h,fun _ _ h=>.inl h,fun t _ tk ht=>?_,fun t tk g ht hg=>?_,fun b hb _ _=>heap_alloc_lt w _ hb,by simp,rfl,rfl,rfl,fun _ _=>rfl⟩
  ·show (if t=t0 then _ else _)=_
   rw[if_neg (fun e=>by subst e;rw[ht0] at ht;cases ht)];exact ht
  ·have ht':(if t=t0 then some tk0 else G.tok t)=some tk:=ht
   split at ht'
   ·cases ht'
    cases hg
    exact .inr (.inl (Nat.le_refl _))
   ·exact .inl ht'
 refine ⟨G',⟨fun b o v hv=>?_,hW.inj,?_,hW.blkImm,?_,?_,?_,hW.glob.step hE⟩,hE,if_pos rfl,?_,rfl,rfl⟩
 ·have:=hW.imm b o v hv
  rw[World.cell?_alloc_lt w _ _ (World.block_lt_of_cell? w _ this)];exact this
 ·intro n b hn;have:=hW.lt n b hn;simp;omega
 ·intro t tk ht
  have ht':(if t=t0 then some tk0 else G.tok t)=some tk:=ht
  split at ht'
  ·cases ht'
   exact ⟨_,len,cap,rfl,hlc,hm,cells,T,rfl,heap_alloc_new w _,hs,fun o _=>hno o,fun cs' hcs=>by cases hcs;exact ⟨hno,hc⟩⟩
  ·exact (hW.tokOk t tk ht').keep fun g hg=>⟨heap_alloc_lt w _ (tok_lt hW ht' hg),fun o v hv=>hv⟩
 ·intro t t' tk tk' g h1 h2 h3 h4
  have h1':(if t=t0 then some tk0 else G.tok t)=some tk:=h1
  have h2':(if t'=t0 then some tk0 else G.tok t')=some tk':=h2
  split at h1'<;>split at h2'
  ·simp_all
  ·cases h1';cases h3;have:=tok_lt hW h2' h4;omega
  ·cases h2';cases h4;have:=tok_lt hW h1' h3;omega
  ·exact hW.tokInj t t' tk tk' g h1' h2' h3 h4
 ·intro t tk g n h1 h2 hn
  have h1':(if t=t0 then some tk0 else G.tok t)=some tk:=h1
  split at h1'
  ·cases h1';cases h2;have:=hW.lt n _ hn;omega
  ·exact hW.tokBlk t tk g n h1' h2 hn
 ·intro t ht
  by_cases h:t=t0
  ·exact .inr h
  ·left
   have:G'.tok t=G.tok t:=if_neg h
   rw[←this];exact ht
theorem grow_row_x {G:Gh}{w:World}(hW:WInv G w) (t t0:Nat) (ht0:G.tok t0=none) (k:Sz) (g len cap:Nat) (cs:List Value) (hcl:cs.length=len*k.size)
  (ht:G.tok t=some ⟨.slice (some ⟨g,0,none⟩) len cap,k,some g,some cs⟩)
  (m:Nat) (news:List Value) (hl:news.length=m*k.size) (hroom:len+m≤cap) (us:List Nat) (hus:t∈us) :
  ∃cur T G',w.heap[g]? = some (.cells cur T (0,0))∧cur.size=cap*k.size∧WInv G' (w.setRow g (cur.toList.take (len*k.size)++news++cur.toList.drop (len*k.size+news.length)).toArray) ∧
   Ext G G' w (w.setRow g (cur.toList.take (len*k.size)++news++cur.toList.drop (len*k.size+news.length)).toArray) (fun _=>False) (·∈us) ∧
   G'.tok t0=some ⟨.slice (some ⟨g,0,none⟩) (len+m) cap,k,some g,some (cs++news)⟩ ∧
   (∀t,G'.tok t≠none→G.tok t≠none∨t=t0)∧G'.blk=G.blk∧G'.I=G.I:=by
 obtain ⟨a,len',cap',hh,hle,hmx,hfr⟩:=hW.tokOk t _ ht
 simp only[Value.slice.injEq] at hh
 obtain ⟨rfl,rfl,rfl⟩:=hh
 simp only at hfr
 obtain ⟨cur,T,_,hg,hcs,_,hx⟩:=hfr
 obtain ⟨hno,hcur⟩:=hx cs rfl
 refine ⟨cur,T,?_⟩
 generalize hcs':(cur.toList.take (len*k.size)++news++cur.toList.drop (len*k.size+news.length)).toArray=cs'
 let tk0:Tk:=⟨.slice (some ⟨g,0,none⟩) (len+m) cap,k,some g,some (cs++news)⟩
 let G':Gh:=⟨G.I,G.blk,fun t'=>if t'=t0 then some tk0 else if t'=t then none else G.tok t',G.cap⟩
 have htT:TokBlk G g (·∈us):=⟨t,_,hus,ht,rfl⟩
 have hold:∀b,b≠g→(w.setRow g cs').heap[b]? = w.heap[b]? := fun b h=>setRow_other w g b _ (by omega)
 have hnew:(w.setRow g cs').heap[g]? = some (.cells cs' T (0,0)):=setRow_heap w g _ _ T _ hg
 have hk1:len*k.size+news.length≤cur.size:=by rw[hl,hcs,←Nat.add_mul];exact Nat.mul_le_mul_right _ hroom
 have hcsz:cs'.size=cur.size:=by rw[←hcs'];simp;omega
 have hcell:∀(j:Nat) (v:Value),(cs++news)[j]? = some v→cs'[j]? = some v:=by
  intro o v hv
  rw[←hcs']
  simp only[List.getElem?_toArray,List.append_assoc,List.getElem?_append,List.length_take,Array.length_toList,List.getElem?_take,List.getElem?_drop] at hv ⊢
  have:min (len*k.size) cur.size=len*k.size:=by omega
  rw[this]
  rw[hcl] at hv
  by_cases h1:o<len*k.size
  ·simp only[h1,if_true] at hv ⊢
   rw[Array.getElem?_toList]
   exact hcur o v hv
  ·simp only[h1,if_false] at hv ⊢
   have:=(List.getElem?_eq_some_iff.1 hv).1
   rw[if_pos (by omega)]
   exact hv
 have hgl:Glob G' (w.setRow g cs'):=by
  intro g1 hg1
  obtain ⟨h1,h2,h3⟩:=hW.glob g1 hg1
  have hne:g1≠g:=fun e=>h3 t _ ht (by rw[e])
  refine ⟨by rw[hold g1 hne];exact h1,h2,fun t' tk' ht' hgg=>?_⟩
  have h4:(if t'=t0 then some tk0 else if t'=t then none else G.tok t')=some tk':=ht'
  split at h4
  ·cases h4;exact hne (Option.some.inj hgg).symm
  ·split at h4
   ·cases h4
   ·exact h3 t' tk' h4 hgg
 refine ⟨G',hg,hcs,⟨fun b o v hv=>?_,hW.inj,fun n b hn=>by simpa using hW.lt n b hn,hW.blkImm,?_,?_,?_,hgl⟩,⟨Imm.le_refl _,fun b o v hv=>.inl hv,fun _ _=>rfl,fun _ _ h=>h,fun _ _ h=>.inl h,?_,?_,?_,by simp,rfl,rfl,rfl,fun _ _=>rfl⟩,if_pos rfl,?_,rfl,rfl⟩
 ·have h0:=hW.imm b o v hv
  have hb:b≠g:=fun e=>by
   have hv':G.I b o=some v:=hv
   rw[e,hno o] at hv';cases hv'
  rw[World.cell?_of_block (w:=w) (hold b hb)];exact h0
 ·intro t' tk' ht'
  have h1:(if t'=t0 then some tk0 else if t'=t then none else G.tok t')=some tk':=ht'
  split at h1
  ·cases h1
   exact ⟨_,len+m,cap,rfl,hroom,hmx,cs',T,rfl,hnew,by rw[hcsz];exact hcs,fun o _=>hno o,fun cs2 hc2=>by cases hc2;exact ⟨hno,hcell⟩⟩
  ·split at h1
   ·cases h1
   ·rename_i h2
    refine (hW.tokOk t' tk' h1).keep fun g' hg2=>?_
    have hne:g'≠g:=fun e=>h2 (hW.tokInj t' t tk' _ g h1 ht (by rw[hg2,e]) rfl)
    exact ⟨hold g' hne,fun o v hv=>hv⟩
 ·intro t1 t2 tk1 tk2 g' h1 h2 h3 h4
  have h1':(if t1=t0 then some tk0 else if t1=t then none else G.tok t1)=some tk1:=h1
  have h2':(if t2=t0 then some tk0 else if t2=t then none else G.tok t2)=some tk2:=h2
  split at h1'<;>split at h2'
  ·simp_all
  ·cases h1'
   cases h3
   split at h2'
   ·cases h2'
   ·rename_i h5;exact absurd (hW.tokInj t2 t tk2 _ _ h2' ht h4 rfl) h5
  ·cases h2'
   cases h4
   split at h1'
   ·cases h1'
   ·rename_i h5;exact absurd (hW.tokInj t1 t tk1 _ _ h1' ht h3 rfl) h5
  ·split at h1'
   ·cases h1'
   ·split at h2'
    ·cases h2'
    ·exact hW.tokInj t1 t2 tk1 tk2 g' h1' h2' h3 h4
 ·intro t1 tk1 g' n h1 h2 hn
  have h1':(if t1=t0 then some tk0 else if t1=t then none else G.tok t1)=some tk1:=h1
  split at h1'
  ·cases h1';cases h2;exact hW.tokBlk t _ g n ht rfl hn
  ·split at h1'
   ·cases h1'
   ·exact hW.tokBlk t1 tk1 g' n h1' h2 hn
 ·intro t' hn tk' ht'
  show (if t'=t0 then _ else if t'=t then _ else _)=_
  rw[if_neg (fun e=>by subst e;rw[ht0] at ht';cases ht'),if_neg (fun e=>hn (by rw[e];exact hus))]
  exact ht'
 ·intro t' tk' g' h1 h2
  have h1':(if t'=t0 then some tk0 else if t'=t then none else G.tok t')=some tk':=h1
  split at h1'
  ·cases h1';cases h2;exact .inr (.inr htT)
  ·split at h1'
   ·cases h1'
   ·exact .inl h1'
 ·intro b hb _ hnt
  exact hold b (fun e=>hnt (by rw[e];exact htT))
 ·intro t' h1
  by_cases h:t'=t0
  ·exact .inr h
  ·left
   have h2:G'.tok t'=if t'=t then none else G.tok t':=if_neg h
   rw[h2] at h1
   split at h1
   ·exact absurd rfl h1
   ·exact h1
theorem append_none {T:TypeId}{es:List PV}{k:Sz}{bytes:Nat}{sv xv:Value}(ty:TypeId) (hW:WInv G w) (hs:elemSz P T=some (k,bytes)) (hsr:Rep G.I (.slice es) sv) (hxr:Rep G.I (.slice []) xv) :
  (Builtin.append_ #[T,T] ty #[sv,xv]).run P w=.ok sv w:=by
 obtain ⟨e,inf,z,hu,hsz,hinf,hsi,hby,hpos,hzv,hzo⟩:=elemSz_spec hs
 obtain ⟨xa,xc,yv,rfl,hyl,hym,hyr,hyo,hyf,hy1,hy2,hy3⟩:=firstCells_rep (k:=k) (P:=P) hW hxr (by simp)
 rw[Rep] at hsr
 obtain ⟨a,len,cap,k',rfl,rfl,h1,_,_⟩:=hsr
 have hyv:yv=[]:=by rw[RepL] at hyr;exact hyr
 subst hyv
 refine run_append_here (m:=0) (w':=w) hu hinf (news:=[]) (by rw[hsi];simpa [flatCells] using hy1) (by simpa using h1) ?_
 cases a with
 |none=>exact .inl ⟨rfl,rfl⟩
 |some ad=>exact .inr ⟨ad,rfl,by simp[storeCells]⟩
theorem append_core_x {T:TypeId}{es ys:List PV}{k:Sz}{bytes:Nat}{sv xv:Value}{t0:Nat}{us:List Nat}(ty:TypeId) (hW:WInv G w) (hs:elemSz P T=some (k,bytes))
  (hsx:(es=[]∧(∃a,sv=.slice a 0 0)∧ys≠[])∨∃t∈us,∃tk,G.tok t=some tk∧ExAt G.I tk k es sv) (hxr:Rep G.I (.slice ys) xv) (hxe:∀e∈ys,e.hasSz k=true)
  (hbytes:(es.length+ys.length)*bytes≤140737488355328) (hmax:es.length+ys.length≤maxLen) (ht0:G.tok t0=none) :
  ∃v w' G',(Builtin.append_ #[T,T] ty #[sv,xv]).run P w=.ok v w'∧(∃tk',G'.tok t0=some tk'∧ExAt G'.I tk' k (es++ys) v)∧WInv G' w'∧Ext G G' w w' (fun _=>False) (·∈us) ∧
   (∀t,G'.tok t≠none→G.tok t≠none∨t=t0)∧G'.blk=G.blk:=by
 obtain ⟨e,inf,z,hu,hsz,hinf,hsi,hby,hpos,hzv,hzo⟩:=elemSz_spec hs
 obtain ⟨xa,xc,yv,rfl,hyl,hym,hyr,hyo,hyf,hy1,hy2,hy3⟩:=firstCells_rep (P:=P) hW hxr hxe
 subst hby
 have hzs:z.cells.size=k.size:=Sz.size_of_ok hzo
 -- what the slice holds now
 have hold:∃sa sc ev,sv=.slice sa es.length sc∧es.length≤sc∧RepL G.I es ev∧(∀x∈ev,k.okV x=true)∧(flatCells ev).length=es.length*k.size ∧
   (Builtin.firstCells k.size es.length (.slice sa es.length sc)).run P w.drew=.ok (flatCells ev).toArray w.drew ∧
   (es.length+ys.length≤sc→∃t∈us,∃g,sa=some ⟨g,0,none⟩∧G.tok t=some ⟨.slice (some ⟨g,0,none⟩) es.length sc,k,some g,some (flatCells ev)⟩):=by
  rcases hsx with ⟨rfl,⟨sa,rfl⟩,hne⟩|⟨t,htu,tk,htk,h1,h2,g,cap,vs,h3,h4,h5,h6,h7⟩
  ·have hfc:(Builtin.firstCells k.size 0 (.slice sa 0 0)).run P w.drew=.ok #[] w.drew:=by
    cases sa with
    |none=>exact run_firstCells_none w.drew k.size 0 0 0
    |some a=>simpa using run_firstCells_some (P:=P) w.drew k.size 0 a 0 0 [] (by simp) (by simp)
   exact ⟨sa,0,[],rfl,Nat.le_refl _,by simp[RepL],by simp,by simp[flatCells],by simpa [flatCells] using hfc,fun h=>by simp at h;exact absurd h hne⟩
  ·have hl:=flat_length h6
   rw[←h5.length] at hl
   obtain ⟨a,len,cap',g1,gle,_,g2⟩:=hW.tokOk t tk htk
   rw[h3] at g2
   simp only at g2
   obtain ⟨cur,T',_,hgh,_,_,hx⟩:=g2
   obtain ⟨_,hcur⟩:=hx _ h7
   rw[h1,h4] at g1
   cases g1
   have hc:∀(j:Nat) (x:Value),(flatCells vs)[j]? = some x→w.cell? ((⟨g,0,none⟩:Addr).add j)=some x:=fun j x hj=>by
    rw[add_none,cell_row hgh,Nat.zero_add];exact hcur j x hj
   refine ⟨some ⟨g,0,none⟩,cap,vs,h4,gle,h5,h6,hl,run_firstCells_some w.drew k.size es.length ⟨g,0,none⟩ es.length cap (flatCells vs) hl (fun j x hj=>by simpa using hc j x hj),fun _=>⟨t,htu,g,rfl,?_⟩⟩
   rw[htk]
   cases tk
   simp only at h1 h2 h3 h7
   subst h1;subst h2;subst h3;subst h7;subst h4
   rfl
 obtain ⟨sa,sc,ev,rfl,hesc,her,heo,hef,he2,hin⟩:=hold
 have hflat:flatCells (ev++yv)=flatCells ev++flatCells yv:=by simp[flatCells]
 have hok:∀x∈ev++yv,k.okV x=true:=fun x hx=>(List.mem_append.1 hx).elim (heo x) (hyo x)
 by_cases hroom:es.length+ys.length≤sc
 ·obtain ⟨t,htu,g,rfl,htk⟩:=hin hroom
  obtain ⟨cur,T',G',hgh,hcs,g1,g2,g4,g5,g6,g7⟩:=grow_row_x hW t t0 ht0 k g es.length sc (flatCells ev) hef htk ys.length (flatCells yv) hyf hroom us htu
  refine ⟨.slice (some ⟨g,0,none⟩) (es.length+ys.length) sc,_,G',?_,⟨_,g4,rfl,rfl,g,sc,ev++yv,rfl,by simp,by rw[g7];exact her.append hyr,hok,by rw[hflat]⟩,g1,g2,g5,g6⟩
  refine run_append_here hu hinf (news:=flatCells yv) (by rw[hsi];exact hy1) hroom (.inr ⟨_,rfl,?_⟩)
  rw[add_none,Nat.zero_add,hsi]
  have hk1:es.length*k.size+(flatCells yv).length≤cur.size:=by rw[hyf,hcs,←Nat.add_mul];exact Nat.mul_le_mul_right _ hroom
  have:=run_storeCells_at P g (es.length*k.size) T' (flatCells yv) 0 cur w hgh (by simpa using hk1) (flat_one hyo)
  simpa using this
 ·have hge:=grownCap_ge w (es.length+ys.length) sc e
  have hcm:=grownCap_le_maxLen w (es.length+ys.length) sc e hmax
  have hrun:=run_append_grow' (P:=P) (w:=w) (ty:=ty) hu hinf hzv (a:=sa) (b:=xa) (n:=es.length) (m:=ys.length) (cap:=sc) (c:=xc) (olds:=flatCells ev) (news:=flatCells yv) (by rw[hsi];exact hy2) (by rw[hsi];exact he2) (by omega) hmax hbytes
  generalize grownCap w (es.length+ys.length) sc e=nc at hge hcm hrun
  have hcsz:((flatCells ev).toArray++(flatCells yv).toArray++Builtin.zeroCells z.cells (nc - (es.length+ys.length))).size=nc*k.size:=by
   simp only[Array.size_append,List.size_toArray,size_zeroCells,hzs,hef,hyf,←Nat.add_mul]
   congr 1;omega
  obtain ⟨G',g1,g2,g4,g5,g6,g7⟩:=lay_row_x (w:=w.drew) hW.drew _ e (es.length+ys.length) nc k t0 ht0 hge hcm hcsz (flatCells (ev++yv)) (fun j v hj=>by
   rw[Array.getElem?_append_left (by
    have:=(List.getElem?_eq_some_iff.1 hj).1
    rw[hflat,List.length_append] at this
    simp only[Array.size_append,List.size_toArray]
    exact this)]
   rw[hflat] at hj
   simpa using hj)
  exact ⟨_,_,G',hrun,⟨_,g4,rfl,rfl,_,nc,ev++yv,rfl,by simp,by rw[g7];exact her.append hyr,hok,rfl⟩,g1,(g2.weaken (fun _ h=>h) (fun _ h=>by simp at h)).drew,g5,g6⟩
theorem own_nil_x {G:Gh}{w:World}(hW:WInv G w) {t:Nat}{tk:Tk}{g cap:Nat}(ht:G.tok t=some tk) (hh:tk.hdr=.slice (some ⟨g,0,none⟩) 0 cap) (hg:tk.g=some g) :
  WInv ⟨G.I,G.blk,fun t'=>if t'=t then some ⟨tk.hdr,tk.k,tk.g,some []⟩ else G.tok t',G.cap⟩ w:=by
 have hd:∀t' tk',(if t'=t then some (⟨tk.hdr,tk.k,tk.g,some []⟩:Tk) else G.tok t')=some tk'→∃tk0,G.tok t'=some tk0∧tk0.g=tk'.g:=by
  intro t' tk' h
  split at h
  ·rename_i e;subst e;cases h;exact ⟨tk,ht,rfl⟩
  ·exact ⟨tk',h,rfl⟩
 refine ⟨hW.imm,hW.inj,hW.lt,hW.blkImm,fun t' tk' h=>?_,fun t1 t2 tk1 tk2 g' h1 h2 h3 h4=>?_,fun t' tk' g' n h1 h2=>?_,fun g' hg'=>⟨(hW.glob g' hg').1,(hW.glob g' hg').2.1,fun t' tk' h=>?_⟩⟩
 ·have h':(if t'=t then some (⟨tk.hdr,tk.k,tk.g,some []⟩:Tk) else G.tok t')=some tk':=h
  split at h'
  ·cases h'
   obtain ⟨a,len,cap',h1,h2,h3,h4⟩:=hW.tokOk t tk ht
   rw[hh] at h1
   cases h1
   rw[hg] at h4
   obtain ⟨cur,T,h5,h6,h7,h8,h9⟩:=h4
   refine ⟨_,_,_,hh,h2,h3,?_⟩
   show match tk.g with|none=>_|some g=>_
   rw[hg]
   refine ⟨cur,T,rfl,h6,h7,h8,fun cs hcs=>?_⟩
   have:cs=[]:=by have:some ([]:List Value)=some cs:=hcs;cases this;rfl
   subst this
   exact ⟨fun o=>h8 o (by simp),by simp⟩
  ·exact (hW.tokOk t' tk' h').keep fun _ _=>⟨rfl,fun _ _ h=>h⟩
 ·obtain ⟨a1,b1,c1⟩:=hd t1 tk1 h1
  obtain ⟨a2,b2,c2⟩:=hd t2 tk2 h2
  exact hW.tokInj t1 t2 a1 a2 g' b1 b2 (by rw[c1,h3]) (by rw[c2,h4])
 ·obtain ⟨a1,b1,c1⟩:=hd t' tk' h1
  exact hW.tokBlk t' a1 g' n b1 (by rw[c1,h2])
 ·obtain ⟨a1,b1,c1⟩:=hd t' tk' h
  rw[←c1]
  exact (hW.glob g' hg').2.2 t' a1 b1
theorem Ext.retok {G G':Gh}{w w':World}{mods:Nm→Prop}{us:Nat→Prop}{t:Nat}{tk tk2:Tk}(ht:G.tok t=some tk) (hg:tk2.g=tk.g) (hu:us t)
  (h:Ext ⟨G.I,G.blk,fun t'=>if t'=t then some tk2 else G.tok t',G.cap⟩ G' w w' mods us):Ext G G' w w' mods us:=by
 have hT:∀{g},TokBlk ⟨G.I,G.blk,fun t'=>if t'=t then some tk2 else G.tok t',G.cap⟩ g us→TokBlk G g us:=by
  rintro g ⟨t',tk',h1,h2,h3⟩
  have h2':(if t'=t then some tk2 else G.tok t')=some tk':=h2
  split at h2'
  ·cases h2';exact ⟨t,tk,hu,ht,by rw[←hg];exact h3⟩
  ·exact ⟨t',tk',h1,h2',h3⟩
 refine ⟨h.I,fun b o v hv=>(h.INew b o v hv).imp id (Or.imp id hT),h.blk,h.mono,fun n b hn=>(h.blkNew n b hn).imp id (Or.imp id hT),fun t' ht' tk' h1=>?_,fun t' tk' g h1 h2=>?_,fun b hb h1 h2=>h.heap b hb h1 (fun e=>?_),h.size,h.os,h.tape,h.output,h.cap⟩
 ·refine h.tok t' ht' tk' ?_
  show (if t'=t then some tk2 else G.tok t')=_
  rw[if_neg (fun e=>ht' (by rw[e];exact hu))];exact h1
 ·rcases h.tokNew t' tk' g h1 h2 with h3|h3|h3
  ·have h3':(if t'=t then some tk2 else G.tok t')=some tk':=h3
   split at h3'
   ·cases h3';exact .inr (.inr ⟨t,tk,hu,ht,by rw[←hg];exact h2⟩)
   ·exact .inl h3'
  ·exact .inr (.inl h3)
  ·exact .inr (.inr (hT h3))
 ·exact h2 (hT e)
end ops
theorem tok_row {G:Gh}{w:World}(hW:WInv G w) {t:Nat}{tk:Tk}{k:Sz}{es:List PV}{v:Value}{n:Nm}(htk:G.tok t=some tk) (hex:ExAt G.I tk k es v) (hk:0<k.size) (hsz:∀e∈es,e.hasSz k=true) (hbn:G.blk n=none) :
  ∃G',WInv G' w∧Ext G G' w w (·=n) (·=t)∧(∀used,RepSC G' used (.rw n es.length) v)∧RowAt G' w n ⟨.one,.one (.rwc k es)⟩∧(∀t',G'.tok t'≠none→t'≠t∧G.tok t'≠none)∧(∀m,G'.blk m≠none→G.blk m≠none∨m=n):=by
 obtain ⟨h4,h5,g,cap,vs,h6,h7,h8,h9,h10⟩:=hex
 obtain ⟨a0,len,cap',q1,q2,q3,q4⟩:=hW.tokOk t tk htk
 rw[h4,h7] at q1
 cases q1
 rw[h6] at q4
 obtain ⟨cur,T,_,hgh,hcs,_,hx⟩:=q4
 obtain ⟨hno,hcur⟩:=hx _ h10
 rw[h5] at hcs
 let G':Gh:=⟨G.I,fun m=>if m=n then some g else G.blk m,fun t'=>if t'=t then none else G.tok t',fun m=>if m=n then cap else G.cap m⟩
 have hblk:∀m b,G'.blk m=some b→(m=n∧b=g)∨(m≠n∧G.blk m=some b):=by
  intro m b hm
  have hm':(if m=n then some g else G.blk m)=some b:=hm
  split at hm'
  ·cases hm';exact .inl ⟨by assumption,rfl⟩
  ·exact .inr ⟨by assumption,hm'⟩
 have htok:∀t' tk',G'.tok t'=some tk'→t'≠t∧G.tok t'=some tk':=by
  intro t' tk' ht
  have ht':(if t'=t then none else G.tok t')=some tk':=ht
  split at ht'
  ·cases ht'
  ·exact ⟨by assumption,ht'⟩
 have hc:G'.cap n=cap:=if_pos rfl
 have hb:G'.blk n=some g:=if_pos rfl
 refine ⟨G',⟨hW.imm,fun m m' b h1 h2=>?_,fun m b h1=>?_,fun m b h1 o=>?_,fun t' tk' h1=>?_,fun t1 t2 tk1 tk2 g' h1 h2=>?_,fun t' tk' g' m h1 h2 h3=>?_,fun gv hgv=>⟨(hW.glob gv hgv).1,fun m h1=>?_,fun t' tk' h1=>?_⟩⟩,
  ⟨Imm.le_refl _,fun b o v hv=>.inl hv,fun m hm=>if_neg hm,fun m b hm=>?_,fun m b hm=>?_,fun t' ht tk' h1=>?_,fun t' tk' g' h1 _=>.inl (htok _ _ h1).2,fun _ _ _ _=>rfl,Nat.le_refl _,rfl,rfl,rfl,fun m hm=>if_neg (fun e=>hm (by rw[e];exact hbn))⟩,
  fun used=>⟨g,cap,hb,h7,q2,q3,hc⟩,⟨g,k,es,cur,T,vs,hb,hgh,rfl,h8,h9,hsz,hk,hcur,by rw[hc];exact hcs,by rw[hc];exact q3⟩,fun t' h1=>?_,fun m h1=>?_⟩
 ·rcases hblk m b h1 with ⟨rfl,rfl⟩|⟨_,e1⟩<;>rcases hblk m' b h2 with ⟨rfl,e⟩|⟨_,e2⟩
  ·rfl
  ·exact absurd e2 (hW.tokBlk t tk _ m' htk h6)
  ·subst e;exact absurd e1 (hW.tokBlk t tk _ m htk h6)
  ·exact hW.inj m m' b e1 e2
 ·rcases hblk m b h1 with ⟨_,rfl⟩|⟨_,e1⟩
  ·exact (Array.getElem?_eq_some_iff.1 hgh).1
  ·exact hW.lt m b e1
 ·rcases hblk m b h1 with ⟨_,rfl⟩|⟨_,e1⟩
  ·exact hno o
  ·exact hW.blkImm m b e1 o
 ·exact (hW.tokOk t' tk' (htok t' tk' h1).2).keep fun _ _=>⟨rfl,fun _ _ h=>h⟩
 ·exact hW.tokInj t1 t2 tk1 tk2 g' (htok _ _ h1).2 (htok _ _ h2).2
 ·obtain ⟨e1,e2⟩:=htok _ _ h1
  rcases hblk m g' h3 with ⟨_,rfl⟩|⟨_,e3⟩
  ·exact e1 (hW.tokInj t' t tk' tk _ e2 htk h2 h6)
  ·exact hW.tokBlk t' tk' g' m e2 h2 e3
 ·rcases hblk m gv h1 with ⟨_,rfl⟩|⟨_,e1⟩
  ·exact (hW.glob _ hgv).2.2 t tk htk h6
  ·exact (hW.glob gv hgv).2.1 m e1
 ·exact (hW.glob gv hgv).2.2 t' tk' (htok _ _ h1).2
 ·show (if m=n then some g else G.blk m)=_
  rw[if_neg (fun e=>by subst e;rw[hbn] at hm;cases hm)];exact hm
 ·rcases hblk m b hm with ⟨_,rfl⟩|⟨_,e1⟩
  ·exact .inr (.inr ⟨t,tk,rfl,htk,h6⟩)
  ·exact .inl e1
 ·show (if t'=t then none else G.tok t')=_
  rw[if_neg ht];exact h1
 ·cases hk':G'.tok t' with
  |none=>exact absurd hk' h1
  |some tk'=>obtain ⟨e1,e2⟩:=htok _ _ hk';exact ⟨e1,by rw[e2];simp⟩
 ·cases hk':G'.blk m with
  |none=>exact absurd hk' h1
  |some b=>
   rcases hblk m b hk' with ⟨e,_⟩|⟨_,e⟩
   ·exact .inr e
   ·left;rw[e];simp
def Gh.unrow (G:Gh) (n:Nm) (t0:Nat) (tk:Tk):Gh:=⟨G.I,fun m=>if m=n then none else G.blk m,fun t=>if t=t0 then some tk else G.tok t,G.cap⟩
theorem row_tok {G:Gh}{w:World}(hW:WInv G w) {n:Nm}{kb k:Sz}{es:List PV}(t0:Nat) (hr:RowAt G w n ⟨kb,.one (.rwc k es)⟩) :
  ∃b tk,G.blk n=some b∧tk.g=some b∧ExAt G.I tk k es (.slice (some ⟨b,0,none⟩) es.length (G.cap n))∧(∀e∈es,e.hasSz k=true)∧WInv (G.unrow n t0 tk) w:=by
 obtain ⟨b,k',es',cur,T,vs,h1,h2,h3,h4,h5,h6,h7,h8,h9,h10⟩:=hr
 cases h3
 have hl:=flat_length h5
 rw[←h4.length] at hl
 have hfit:=flat_fits h8
 have hle:es.length≤G.cap n:=Nat.le_of_mul_le_mul_right (by rw[←hl,←h9];exact hfit) h7
 let tk:Tk:=⟨.slice (some ⟨b,0,none⟩) es.length (G.cap n),k,some b,some (flatCells vs)⟩
 have htok:∀t tk',(G.unrow n t0 tk).tok t=some tk'→(t=t0∧tk'=tk)∨(t≠t0∧G.tok t=some tk'):=by
  intro t tk' h
  have h':(if t=t0 then some tk else G.tok t)=some tk':=h
  split at h'
  ·cases h';exact .inl ⟨by assumption,rfl⟩
  ·exact .inr ⟨by assumption,h'⟩
 have hblk:∀m b',(G.unrow n t0 tk).blk m=some b'→m≠n∧G.blk m=some b':=by
  intro m b' h
  have h':(if m=n then none else G.blk m)=some b':=h
  split at h'
  ·cases h'
  ·exact ⟨by assumption,h'⟩
 refine ⟨b,tk,h1,rfl,⟨rfl,rfl,b,G.cap n,vs,rfl,rfl,h4,h5,rfl⟩,h6,⟨hW.imm,fun m m' b' e1 e2=>?_,fun m b' e1=>?_,fun m b' e1 o=>?_,fun t tk' e1=>?_,fun t t' tk1 tk2 g e1 e2 e3 e4=>?_,fun t tk' g m e1 e2 e3=>?_,fun gv hgv=>⟨(hW.glob gv hgv).1,fun m e1=>?_,fun t tk' e1=>?_⟩⟩⟩
 ·exact hW.inj m m' b' (hblk _ _ e1).2 (hblk _ _ e2).2
 ·exact hW.lt m b' (hblk _ _ e1).2
 ·exact hW.blkImm m b' (hblk _ _ e1).2 o
 ·rcases htok _ _ e1 with ⟨_,rfl⟩|⟨_,e⟩
  ·exact ⟨_,_,_,rfl,hle,h10,cur,T,rfl,h2,h9,fun o _=>hW.blkImm n b h1 o,fun cs hcs=>by cases hcs;exact ⟨hW.blkImm n b h1,h8⟩⟩
  ·exact (hW.tokOk t tk' e).keep fun _ _=>⟨rfl,fun _ _ h=>h⟩
 ·rcases htok _ _ e1 with ⟨rfl,rfl⟩|⟨_,e5⟩<;>rcases htok _ _ e2 with ⟨rfl,rfl⟩|⟨_,e6⟩
  ·rfl
  ·cases e3;exact absurd h1 (hW.tokBlk t' tk2 b n e6 e4)
  ·cases e4;exact absurd h1 (hW.tokBlk t tk1 b n e5 e3)
  ·exact hW.tokInj t t' tk1 tk2 g e5 e6 e3 e4
 ·obtain ⟨e4,e5⟩:=hblk _ _ e3
  rcases htok _ _ e1 with ⟨_,rfl⟩|⟨_,e6⟩
  ·cases e2;exact e4 (hW.inj m n b e5 h1)
  ·exact hW.tokBlk t tk' g m e6 e2 e5
 ·exact (hW.glob gv hgv).2.1 m (hblk _ _ e1).2
 ·rcases htok _ _ e1 with ⟨_,rfl⟩|⟨_,e6⟩
  ·intro e;cases e;exact (hW.glob _ hgv).2.1 n h1
  ·exact (hW.glob gv hgv).2.2 t tk' e6
theorem Ext.comp {G G1 G2:Gh}{w w1 w2:World}{mods:Nm→Prop}{us:Nat→Prop}{t0:Nat}(h:Ext G G1 w w1 mods us) (h':Ext G1 G2 w1 w2 mods (·=t0)) (ht0:G.tok t0=none):Ext G G2 w w2 mods us:=by
 have hsz:=h.size
 have hT:∀{g},TokBlk G1 g (·=t0)→w.heap.size≤g∨TokBlk G g us:=by
  rintro g ⟨t,tk,rfl,h1,h2⟩
  rcases h.tokNew t tk g h1 h2 with h3|h3|h3
  ·rw[ht0] at h3;cases h3
  ·exact .inl h3
  ·exact .inr h3
 refine ⟨Imm.le_trans h.I h'.I,fun b o v hv=>?_,fun n hn=>(h'.blk n hn).trans (h.blk n hn),fun n b hn=>h'.mono n b (h.mono n b hn),fun n b hn=>?_,fun t ht tk h1=>h'.tok t (fun e=>by rw[e,ht0] at h1;cases h1) tk (h.tok t ht tk h1),fun t tk g h1 h2=>?_,fun b hb h1 h2=>?_,Nat.le_trans h.size h'.size,h'.os.trans h.os,h'.tape.trans h.tape,h'.output.trans h.output,fun n hn=>?_⟩
 ·rcases h'.INew b o v hv with h3|h3|h3
  ·exact h.INew b o v h3
  ·exact .inr (.inl (by omega))
  ·exact .inr (hT h3)
 ·rcases h'.blkNew n b hn with h3|h3|h3
  ·exact h.blkNew n b h3
  ·exact .inr (.inl (by omega))
  ·exact .inr (hT h3)
 ·rcases h'.tokNew t tk g h1 h2 with h3|h3|h3
  ·exact h.tokNew t tk g h3 h2
  ·exact .inr (.inl (by omega))
  ·exact .inr (hT h3)
 ·rw[h'.heap b (by omega) (fun n hm hn=>?_) (fun ht=>?_)]
  ·exact h.heap b hb h1 h2
  ·rcases h.blkNew n b hn with h3|h3|h3
   ·exact h1 n hm h3
   ·omega
   ·exact h2 h3
  ·rcases hT ht with h3|h3
   ·omega
   ·exact h2 h3
 ·rw[h'.cap n (fun e=>hn (by
   cases hc:G.blk n with
   |none=>rfl
   |some b=>rw[h.mono n b hc] at e;cases e)),h.cap n hn]
end Go.Abs
namespace Go.Abs
open Go
section ops
variable {P:Program}{A:Ann}{o:Oper}{act:Act}{w:World}{G:Gh}{used:List Nat}{ρ:Operand→SV}{bx:Nm→Option Box}
theorem nilOf_rep {x:SV}{v:Value}(h:RepSV G used x v):RepSV G used (nilOf x) v:=by
 unfold nilOf
 split
 ·simp only[RepSV,RepSC,Rep] at h ⊢;exact h
 ·exact h
theorem op_append {T:TypeId}{s x:Operand}{sv:SV}{upd:List (Nm×Box)}{us:List Nat}(hW:WInv G w) (ho:o.op=.call {callee:=.builtin .append,args:=#[s,x],argTypes:=#[T,T]})
  (h:aAppend P A.frz o T (ρ s) (ρ x)=some (sv,upd,us)) (hρ:∀x,RepSV G used (ρ x) (act.eval x)) (hus:∀t∈us,t∉used) (hfr:∀d,o.dst=some d→G.tok (2*d+1)=none):OpRes P o act w G used sv upd us:=by
 unfold aAppend at h
 split at h
 ·rename_i k bytes ys d hs hx hd
  split at h
  ·rename_i hall
   have hxr:=SV.pv_rep (hρ x) hx
   have hxe:=all_hasSz hall
   have hsv:=nilOf_rep (hρ s)
   split at h
   ·rename_i t k' heq
    rw[heq] at hsv
    split at h
    ·split at h
     ·cases h
     ·rename_i hy0
      split at h
      ·rename_i hc
       obtain ⟨rfl,hb,hm⟩:=hc
       cases h
       simp only[RepSV,RepSC] at hsv
       obtain ⟨h1,h2,h3⟩:=hsv
       obtain ⟨tk,h4,h5,h6,h6'⟩:=h3 (hus t (by simp))
       have h1':=h1
       rw[Rep] at h1'
       obtain ⟨a,len,cap,k'',hv0,hl0,_,_,_⟩:=h1'
       have hl1:len=0:=by simpa using hl0
       subst hl1
       have fin:∀{v:Value}{w':World}{G':Gh},(Builtin.append_ #[T,T] o.type #[act.eval s,act.eval x]).run P w=.ok v w'→(∃tk',G'.tok (2*d+1)=some tk'∧ExAt G'.I tk' k' ([]++ys) v)→WInv G' w'→Ext G G' w w' (fun _=>False) (·∈[t,2*d]) →
         (∀t,G'.tok t≠none→G.tok t≠none∨t=2*d+1)→G'.blk=G.blk→OpRes P o act w G used (.one (.ex (2*d+1) k' ys)) [] [t,2*d]:=by
        intro v w' G' g1 g3 g4 g5 g6 g7
        obtain ⟨tk',g8,g9⟩:=g3
        have hv:=g9.2.2
        exact ⟨v,w',G',.inl (append_exec ho g1),⟨by obtain ⟨g,cap,vs,_,hv,_⟩:=hv;exact ⟨_,_,hv⟩,hxe,fun _=>⟨tk',g8,by simpa using g9⟩⟩,g4,g5.weaken (fun _ h=>h.elim) (fun _ h=>h),(by simp),fun t' ht=>(g6 t' ht).imp id (fun e=>by simp[tokOf,hd,e]),fun n hn=>.inl (by rw[←g7];exact hn)⟩
       cases hg:tk.g with
       |none=>
        obtain ⟨a',len',cap',q1,q2,q3,q4⟩:=hW.tokOk t tk h4
        rw[hg] at q4
        simp only at q4
        rw[h5,hv0] at q1
        cases q1
        subst q4
        obtain ⟨v,w',G',g1,g3,g4,g5,g6,g7⟩:=append_core_x (us:=[t,2*d]) (es:=[]) o.type hW hs (.inl ⟨rfl,⟨a,hv0⟩,by simpa using hy0⟩) hxr hxe (by simpa using hb) (by simpa using hm) (hfr d hd)
        exact fin g1 g3 g4 g5 g6 g7
       |some g=>
        obtain ⟨a',len',cap',q1,q2,q3,q4⟩:=hW.tokOk t tk h4
        rw[hg] at q4
        obtain ⟨cur,T',q5,q6,_⟩:=q4
        have q1':=q1
        rw[h5,hv0] at q1'
        cases q1'
        rw[q5] at q1
        have hW2:=own_nil_x hW h4 q1 hg
        have ht2:(if 2*d+1=t then some (⟨tk.hdr,tk.k,tk.g,some []⟩:Tk) else G.tok (2*d+1))=none:=by
         rw[if_neg (fun e=>by subst e;rw[hfr d hd] at h4;cases h4)];exact hfr d hd
        have hex:ExAt G.I (⟨tk.hdr,tk.k,tk.g,some []⟩:Tk) k' [] (act.eval s):=⟨h5,h6,g,cap,[],hg,by rw[hv0,q5];rfl,by simp[RepL],by simp,by simp[flatCells]⟩
        obtain ⟨v,w',G',g1,g3,g4,g5,g6,g7⟩:=append_core_x (us:=[t,2*d]) (es:=[]) o.type hW2 hs (.inr ⟨t,by simp,_,by simp,hex⟩) hxr hxe (by simpa using hb) (by simpa using hm) ht2
        refine fin g1 g3 g4 (Ext.retok (tk2:=⟨tk.hdr,tk.k,tk.g,some []⟩) h4 rfl (by simp) g5) (fun t' ht'=>?_) g7
        rcases g6 t' ht' with h7|h7
        ·left
         have h7':(if t'=t then some (⟨tk.hdr,tk.k,tk.g,some []⟩:Tk) else G.tok t')≠none:=h7
         split at h7'
         ·rename_i e;subst e;rw[h4];simp
         ·exact h7'
        ·exact .inr h7
      ·cases h
    ·split at h
     ·rename_i hc
      obtain ⟨rfl,hb,hm⟩:=hc
      cases h
      simp only[RepSV,RepSC] at hsv
      obtain ⟨h1,h2,h3⟩:=hsv
      obtain ⟨tk,h4,h5,h6,h6'⟩:=h3 (hus t (by simp))
      obtain ⟨v,w',G',g1,g2,g3,g4,g5,g6,g7⟩:=append_core (us:=[t,2*d]) (es:=[]) o.type hW hs h1 h2 hxr hxe (by simpa using hb) (by simpa using hm) (hW.tokOk t tk h4) h5 h6 h6' (fun g hg=>⟨t,by simp,h4⟩) (hfr d hd)
      exact ⟨v,w',G',.inl (append_exec ho g1),⟨by simpa using g2,hxe,fun _=>g3⟩,g4,g5.weaken (fun _ h=>h.elim) (fun _ h=>h),(by simp),fun t' ht=>(g6 t' ht).imp id (fun e=>by simp[tokOf,hd,e]),fun n hn=>.inl (by rw[←g7];exact hn)⟩
     ·cases h
   ·rename_i t k' es _ heq
    split at h
    ·rename_i hc
     obtain ⟨rfl,hb,hm⟩:=hc
     cases h
     rw[heq] at hsv
     simp only[RepSV,RepSC] at hsv
     obtain ⟨h1,h2,h3⟩:=hsv
     obtain ⟨tk,h4,h5,h6,h6'⟩:=h3 (hus t (by simp))
     obtain ⟨v,w',G',g1,g2,g3,g4,g5,g6,g7⟩:=append_core (us:=[t,2*d]) o.type hW hs h1 h2 hxr hxe hb hm (hW.tokOk t tk h4) h5 h6 h6' (fun g hg=>⟨t,by simp,h4⟩) (hfr d hd)
     exact ⟨v,w',G',.inl (append_exec ho g1),⟨g2,fun e he=>(List.mem_append.1 he).elim (h2 e) (hxe e),fun _=>g3⟩,g4,g5.weaken (fun _ h=>h.elim) (fun _ h=>h),(by simp),fun t' ht=>(g6 t' ht).imp id (fun e=>by simp[tokOf,hd,e]),fun n hn=>.inl (by rw[←g7];exact hn)⟩
    ·cases h
   ·rename_i t k' es heq
    split at h
    ·rename_i hc
     obtain ⟨rfl,hb,hm⟩:=hc
     cases h
     rw[heq] at hsv
     simp only[RepSV,RepSC] at hsv
     obtain ⟨⟨a,cap,h1⟩,h2,h3⟩:=hsv
     obtain ⟨tk,h4,h5⟩:=h3 (hus t (by simp))
     obtain ⟨v,w',G',g1,g3,g4,g5,g6,g7⟩:=append_core_x (us:=[t,2*d]) o.type hW hs (.inr ⟨t,by simp,tk,h4,h5⟩) hxr hxe hb hm (hfr d hd)
     obtain ⟨tk',g8,g9⟩:=g3
     have hv:=g9.2.2
     exact ⟨v,w',G',.inl (append_exec ho g1),⟨by obtain ⟨g,cap,vs,_,hv,_⟩:=hv;exact ⟨_,_,hv⟩,fun e he=>(List.mem_append.1 he).elim (h2 e) (hxe e),fun _=>⟨tk',g8,g9⟩⟩,g4,g5.weaken (fun _ h=>h.elim) (fun _ h=>h),(by simp),fun t' ht=>(g6 t' ht).imp id (fun e=>by simp[tokOf,hd,e]),fun n hn=>.inl (by rw[←g7];exact hn)⟩
    ·cases h
   ·rename_i heq
    rw[heq] at hsv
    simp only[RepSV,RepSC] at hsv
    split at h
    ·split at h
     ·cases h
     ·rename_i hy0
      split at h
      ·rename_i hc
       cases h
       obtain ⟨v,w',G',g1,g3,g4,g5,g6,g7⟩:=append_core_x (us:=[2*d]) (es:=[]) o.type hW hs (.inl ⟨rfl,⟨none,hsv⟩,by simpa using hy0⟩) hxr hxe (by simpa using hc.1) (by simpa using hc.2) (hfr d hd)
       obtain ⟨tk',g8,g9⟩:=g3
       have hv:=g9.2.2
       exact ⟨v,w',G',.inl (append_exec ho g1),⟨by obtain ⟨g,cap,vs,_,hv,_⟩:=hv;exact ⟨_,_,hv⟩,hxe,fun _=>⟨tk',g8,by simpa using g9⟩⟩,g4,g5.weaken (fun _ h=>h.elim) (fun _ h=>h),(by simp),fun t' ht=>(g6 t' ht).imp id (fun e=>by simp[tokOf,hd,e]),fun n hn=>.inl (by rw[←g7];exact hn)⟩
      ·cases h
    ·split at h
     ·rename_i hc
      cases h
      have h1:Rep G.I (.slice []) (act.eval s):=by rw[hsv,Rep];exact ⟨none,0,0,.one,rfl,rfl,Nat.le_refl _,Nat.zero_le _,.inl rfl⟩
      obtain ⟨v,w',G',g1,g2,g3,g4,g5,g6,g7⟩:=append_core (us:=[2*d]) (tk:=⟨.slice none 0 0,k,none,none⟩) o.type hW hs h1 (by simp) hxr hxe (by simpa using hc.1) (by simpa using hc.2) ⟨none,0,0,rfl,Nat.le_refl _,Nat.zero_le _,rfl⟩ hsv.symm rfl rfl (fun g hg=>by cases hg) (hfr d hd)
      exact ⟨v,w',G',.inl (append_exec ho g1),⟨by simpa using g2,hxe,fun _=>g3⟩,g4,g5.weaken (fun _ h=>h.elim) (fun _ h=>h),(by simp),fun t' ht=>(g6 t' ht).imp id (fun e=>by simp[tokOf,hd,e]),fun n hn=>.inl (by rw[←g7];exact hn)⟩
     ·cases h
   ·rename_i es heq
    rw[heq] at hsv
    split at h
    ·rename_i hy0
     cases h
     have e:ys=[]:=by simpa using hy0
     subst e
     exact OpRes.quiet hW _ (append_exec ho (append_none o.type hW hs hsv hxr)) hsv
    ·cases h
   ·cases h
  ·cases h
 ·cases h
theorem toList_eq_one {α:Type}{a:Array α}{x:α}(h:a.toList=[x]):a=#[x]:=by
 apply Array.ext';simpa using h
theorem toList_eq_two {α:Type}{a:Array α}{x y:α}(h:a.toList=[x,y]):a=#[x,y]:=by
 apply Array.ext';simpa using h
theorem map_eq_two {α β:Type}{f:α→β}{l:List α}{a b:β}(h:l.map f=[a,b]):∃y z,l=[y,z]∧f y=a∧f z=b:=by
 cases l with
 |nil=>simp at h
 |cons y l=>
  cases l with
  |nil=>simp at h
  |cons z l=>
   cases l with
   |nil=>simp at h;exact ⟨y,z,rfl,h.1,h.2⟩
   |cons u l=>simp at h
theorem map_eq_one {α β:Type}{f:α→β}{l:List α}{a:β}(h:l.map f=[a]):∃y,l=[y]∧f y=a:=by
 cases l with
 |nil=>simp at h
 |cons y l=>
  cases l with
  |nil=>simp at h;exact ⟨y,rfl,h⟩
  |cons z l=>simp at h
def laysBox (A:Ann) (o:Oper):Option Nm:=
 match o.op,o.dst with
 | .alloc _,some d=>some (.loc d)
 | .makeMap _ _,some d=>some (.loc d)
 | .box _ _,some d=>if A.imm.contains d then none else some (.loc d)
 | .call {callee:=.builtin .append,args:=_,argTypes:=_},some d=>if A.frz.contains (3000000+d) then some (.loc d) else none
 | .buildSlice _ _ _,some d=>if A.frz.contains (3000000+d) then some (.loc d) else none
 |_,_=>none
theorem op_appendRow {T:TypeId}{s x:Operand}{sv:SV}{upd:List (Nm×Box)}{us:List Nat}(hW:WInv G w) (ho:o.op=.call {callee:=.builtin .append,args:=#[s,x],argTypes:=#[T,T]})
  (h:aAppendRow P o T (ρ s) (ρ x)=some (sv,upd,us)) (hρ:∀x,RepSV G used (ρ x) (act.eval x)) (hus:∀t∈us,t∉used) (hfr:∀d,o.dst=some d→G.tok (2*d+1)=none) (hloc:∀d,o.dst=some d→G.blk (.loc d)=none):OpRes P o act w G used sv upd us:=by
 unfold aAppendRow at h
 split at h
 ·rename_i k bytes ys d hs hx hd
  split at h
  ·rename_i hall
   obtain ⟨hall,hy0⟩:=hall
   have hxr:=SV.pv_rep (hρ x) hx
   have hxe:=all_hasSz hall
   have hsv:=nilOf_rep (hρ s)
   have hne:ys≠[]:=fun e=>by rw[e] at hy0;cases hy0
   obtain ⟨_,_,_,_,_,_,_,_,hpos,_,_⟩:=elemSz_spec hs
   have main:∀{es:List PV}{us:List Nat},((es=[]∧(∃a,act.eval s=.slice a 0 0)∧ys≠[])∨∃t∈us,∃tk,G.tok t=some tk∧ExAt G.I tk k es (act.eval s))→(∀e∈es,e.hasSz k=true)→(es.length+ys.length)*bytes≤140737488355328→es.length+ys.length≤maxLen →
     OpRes P o act w G used (.one (.rw (.loc d) (es.length+ys.length))) [(.loc d,⟨.one,.one (.rwc k (es++ys))⟩)] us:=by
    intro es us h1 h2 hb hm
    obtain ⟨v,w',G1,g1,⟨tk',g2,g3⟩,g4,g5,g6,g7⟩:=append_core_x (us:=us) o.type hW hs h1 hxr hxe hb hm (hfr d hd)
    obtain ⟨G2,k1,k2,k3,k4,k5,k6⟩:=tok_row (n:=.loc d) g4 g2 g3 hpos (fun e he=>(List.mem_append.1 he).elim (h2 e) (hxe e)) (by rw[g7];exact hloc d hd)
    rw[List.length_append] at k3
    refine ⟨v,w',G2,.inl (append_exec ho g1),k3 (us++used),k1,Ext.comp (g5.weaken (fun _ h=>h.elim) (fun _ h=>h)) (k2.weaken (fun n e=>by simp[e]) (fun _ h=>h)) (hfr d hd),fun n b hb'=>?_,fun t ht=>?_,fun n hn=>?_⟩
    ·simp only[List.mem_singleton,Prod.mk.injEq] at hb'
     obtain ⟨rfl,rfl⟩:=hb'
     exact .inr (.inr k4)
    ·obtain ⟨e1,e2⟩:=k5 t ht
     exact .inl ((g6 t e2).resolve_right e1)
    ·rcases k6 n hn with e|e
     ·exact .inl (by rw[←g7];exact e)
     ·exact .inr (by simp[e])
   split at h
   ·rename_i t k' es heq
    split at h
    ·rename_i hc
     obtain ⟨rfl,hb,hm⟩:=hc
     cases h
     rw[heq] at hsv
     simp only[RepSV,RepSC] at hsv
     obtain ⟨_,h2,h3⟩:=hsv
     obtain ⟨tk,h4,h5⟩:=h3 (hus t (by simp))
     exact main (.inr ⟨t,by simp,tk,h4,h5⟩) h2 hb hm
    ·cases h
   ·rename_i heq
    split at h
    ·rename_i hc
     cases h
     rw[heq] at hsv
     simp only[RepSV,RepSC] at hsv
     have:=main (es:=[]) (us:=[]) (.inl ⟨rfl,⟨none,hsv⟩,hne⟩) (by simp) (by simpa using hc.1) (by simpa using hc.2)
     simpa using this
    ·cases h
   ·cases h
  ·cases h
 ·cases h
theorem op_builtin {b:Builtin}{args:Array Operand}{tys:Array TypeId}{sv:SV}{upd:List (Nm×Box)}{us:List Nat}(hW:WInv G w) (ho:o.op=.call {callee:=.builtin b,args,argTypes:=tys})
  (h:aBuiltin P A.frz o b tys.toList (args.toList.map ρ)=some (sv,upd,us)) (hρ:∀x,RepSV G used (ρ x) (act.eval x)) (hus:∀t∈us,t∉used) (hfr:∀d,o.dst=some d→G.tok (2*d+1)=none) (hloc:∀n,laysBox A o=some n→G.blk n=none):OpRes P o act w G used sv upd us:=by
 unfold aBuiltin at h
 split at h
 ·rename_i T n m ht hx
  obtain ⟨x',hx',hx2⟩:=map_eq_one hx
  rw[toList_eq_one ht,toList_eq_one hx'] at ho
  split at h
  ·rename_i e he
   cases h
   exact op_len_row hW ho hx2 he hρ
  ·cases h
 ·rename_i T t k es ht hx
  obtain ⟨x',hx',hx2⟩:=map_eq_one hx
  rw[toList_eq_one ht,toList_eq_one hx'] at ho
  split at h
  ·rename_i e he
   cases h
   exact op_len_ex hW ho hx2 he hρ
  ·cases h
 ·rename_i T x _ _ ht hx
  obtain ⟨x',hx',rfl⟩:=map_eq_one hx
  rw[toList_eq_one ht,toList_eq_one hx'] at ho
  split at h
  ·rename_i n hn
   cases h
   exact op_len hW ho hn hρ
  ·cases h
 ·rename_i T T' s x ht hx
  obtain ⟨s',x',hx',rfl,rfl⟩:=map_eq_two hx
  split at h
  ·rename_i hT
   subst hT
   rw[toList_eq_two ht,toList_eq_two hx'] at ho
   split at h
   ·rename_i hfl
    refine op_appendRow hW ho h hρ hus hfr fun d hd=>hloc _ ?_
    simp only[rowFlag,hd] at hfl
    simp only[laysBox,ho,hd]
    rw[if_pos hfl]
   ·exact op_append hW ho h hρ hus hfr
  ·cases h
 ·rename_i k a k' b' hx
  obtain ⟨s',x',hx',h1,h2⟩:=map_eq_two hx
  rw[toList_eq_two hx'] at ho
  split at h
  ·rename_i hk
   subst hk
   cases h
   exact op_min hW ho h1 h2 hρ
  ·cases h
 ·rename_i k a k' b' hx
  obtain ⟨s',x',hx',h1,h2⟩:=map_eq_two hx
  rw[toList_eq_two hx'] at ho
  split at h
  ·rename_i hk
   subst hk
   cases h
   exact op_max hW ho h1 h2 hρ
  ·cases h
 ·cases h
theorem aPure_sound {sv:SV}{upd:List (Nm×Box)}{us:List Nat}(h:aPure P A o ρ bx=some (sv,upd,us)) (hW:WInv G w) (hρ:∀x,RepSV G used (ρ x) (act.eval x)) (hbx:∀n b,bx n=some b→BoxAt G used w n b)
  (hus:∀t∈us,t∉used) (hfr:∀d,o.dst=some d→G.tok (2*d+1)=none) (hloc:∀n,laysBox A o=some n→G.blk n=none):OpRes P o act w G used sv upd us:=by
 unfold aPure at h
 split at h
 ·rename_i x ho;cases h;exact op_move hW (.inl ho) hρ
 ·rename_i x ho;cases h;exact op_move hW (.inr ho) hρ
 ·rename_i c a b ho
  split at h
  ·rename_i hc;cases h;exact op_pick hW ho hc hρ
  ·rename_i hc;cases h;exact op_pick hW ho hc hρ
  ·cases h
 ·rename_i t ho
  split at h
  ·rename_i d k z hd hz
   cases h
   exact op_alloc hW ho hz (hloc _ (by simp[laysBox,ho,hd]))
  ·cases h
 ·rename_i t x ho
  split at h
  ·rename_i d k hd hk
   split at h
   ·split at h
    ·rename_i p hp
     split at h
     ·rename_i hsz;cases h;exact op_boxImm hW ho hp hsz hρ
     ·cases h
    ·cases h
   ·rename_i hA
    split at h
    ·rename_i hsz
     cases h
     refine op_box hW ho hsz hρ (hloc _ ?_)
     simp only[laysBox,ho,hd]
     rw[if_neg hA]
    ·cases h
  ·cases h
 ·rename_i t parts ho
  split at h
  ·rename_i n zs pl hz hpl
   split at h
   ·rename_i cs hf;cases h;exact op_build hW ho hz hpl hf hρ
   ·cases h
  ·cases h
 ·rename_i t len parts ho
  split at h
  ·rename_i k bytes d hs hd
   split at h
   ·rename_i hfl
    split at h
    ·rename_i x hx
     split at h
     ·rename_i hc
      cases h
      obtain ⟨p,hp,hpx⟩:=map_eq_one hx
      obtain ⟨i,y⟩:=p
      simp only[Prod.mk.injEq] at hpx
      obtain ⟨rfl,rfl⟩:=hpx
      obtain ⟨rfl,hk,hlim⟩:=hc
      rw[toList_eq_one hp] at ho
      refine op_buildSl hW ho hs hk hlim hρ (hloc _ ?_)
      simp only[rowFlag,hd] at hfl
      simp only[laysBox,ho,hd]
      rw[if_pos hfl]
     ·cases h
    ·cases h
   split at h
   ·rename_i hc
    split at h
    ·rename_i es hp
     cases h
     exact op_buildSlice hW ho hd hs hc.1 hc.2 hp hρ (hfr d hd)
    ·cases h
   ·cases h
  ·cases h
 ·rename_i t a ho
  split at h
  ·rename_i kt hk
   split at h
   ·rename_i n off ha
    split at h
    ·rename_i b hb
     split at h
     ·rename_i k es hrow
      split at h
      ·rename_i hkk
       subst hkk
       split at h
       ·rename_i i hix
        split at h
        ·rename_i e he;cases h;exact op_load_row (ρ:=fun x=>unfxSV (ρ x)) hW ho hk ha hb hrow hix he (fun x=>unfxSV_rep (hρ x)) hbx
        ·cases h
       ·cases h
      ·split at h
       ·rename_i e he
        split at h
        ·rename_i v hv;cases h;exact op_load_rowPart (ρ:=fun x=>unfxSV (ρ x)) hW ho hk ha hb hrow he hv (fun x=>unfxSV_rep (hρ x)) hbx
        ·cases h
       ·cases h
     ·split at h
      ·cases h
      ·rename_i hmp
       split at h
       ·rename_i v hv;cases h;exact op_load (ρ:=fun x=>unfxSV (ρ x)) hW ho hk ha hb hmp hv (fun x=>unfxSV_rep (hρ x)) hbx
       ·cases h
    ·cases h
   ·rename_i x off ha
    split at h
    ·rename_i v hv;cases h;exact op_loadPV (ρ:=fun x=>unfxSV (ρ x)) hW ho hk ha hv (fun x=>unfxSV_rep (hρ x))
    ·cases h
   ·cases h
  ·cases h
 ·rename_i t a x ho
  split at h
  ·rename_i kt hk
   split at h
   ·rename_i n off ha
    split at h
    ·rename_i b hb
     split at h
     ·rename_i k es hrow
      split at h
      ·rename_i hkk
       subst hkk
       split at h
       ·rename_i i p hix hp
        split at h
        ·rename_i hc;cases h;exact op_store_row hW ho hk ha hb hrow hix hp hc.1 hc.2 hρ hbx
        ·cases h
       ·cases h
      ·cases h
     ·split at h
      ·cases h
      ·rename_i hmp
       split at h
       ·rename_i c hc;cases h;exact op_store hW ho hk ha hb hmp hc hρ hbx
       ·cases h
    ·cases h
   ·cases h
  ·cases h
 ·rename_i x ho
  split at h
  ·rename_i hx;cases h;exact op_nilCheck_ptr hW ho hx hρ
  ·rename_i p hx
   unfold nilPV at h
   split at h
   ·cases h;exact op_nilCheck_ep hW ho hx hρ
   ·cases h;exact op_nilCheck_fx hW ho hx hρ
   ·cases h;exact op_nilCheck_fxc hW ho hx hρ
   ·cases h;exact op_nilCheck_pfn hW ho hx hρ
   ·cases h
  ·rename_i hx;cases h;exact op_nilCheck_fn hW ho hx hρ
  ·cases h
 ·rename_i op t x y t' ho
  split at h
  ·rename_i r hr;cases h;exact op_nilCmp hW ho hr hρ
  ·split at h
   ·rename_i a b ha hb
    split at h
    ·rename_i p hp;cases h;exact op_binOp hW ho ha hb hp hρ
    ·cases h
   ·cases h
 ·rename_i op t x ho
  split at h
  ·rename_i a ha
   split at h
   ·rename_i p hp;cases h;exact op_unOp hW ho ha hp hρ
   ·cases h
  ·cases h
 ·rename_i src dst x ho
  split at h
  ·rename_i a ha
   split at h
   ·rename_i p hp;cases h;exact op_convert hW ho ha hp hρ
   ·split at h
    ·rename_i p hp;cases h;exact op_convB hW ho ha hp hρ
    ·cases h
  ·cases h
 ·rename_i f first captured ho
  split at h
  ·rename_i h0
   split at h
   ·rename_i cs hc;cases h;exact op_makeFunc hW ho h0 hc hρ
   ·cases h
  ·cases h
 ·rename_i t x lo hi mx ho
  split at h
  ·rename_i s hx
   split at h
   ·rename_i l hh ht hb;cases h;exact op_sliceStr hW ho hx ht hb hρ
   ·cases h
  ·rename_i es hx
   split at h
   ·rename_i k bytes hs
    split at h
    ·rename_i hall
     split at h
     ·rename_i l hh hb;cases h;exact op_slice_plain hW ho hx hs hall hb hρ
     ·rename_i l hh d hb hd;cases h;exact op_slice_full hW ho hd hx hs hall hb (hfr d hd) hρ
     ·cases h
    ·cases h
   ·cases h
  ·cases h
 ·rename_i t x f ho
  split at h
  ·rename_i off' hf
   split at h
   ·rename_i n off hx;cases h;exact op_fieldAddr_ptr (ρ:=fun x=>unfxSV (ρ x)) hW ho hf hx (fun x=>unfxSV_rep (hρ x))
   ·rename_i y off hx;cases h;exact op_fieldAddr_ep (ρ:=fun x=>unfxSV (ρ x)) hW ho hf hx (fun x=>unfxSV_rep (hρ x))
   ·cases h
  ·cases h
 ·rename_i t x f ho
  split at h
  ·rename_i off k hf hk
   split at h
   ·rename_i ps hx
    split at h
    ·rename_i v hv;cases h;exact op_field hW ho hf hk hx hv hρ
    ·cases h
   ·cases h
  ·cases h
 ·rename_i t x ix ho
  split at h
  ·rename_i n m hx
   split at h
   ·rename_i k bytes i hs hi
    split at h
    ·rename_i hc;cases h;exact op_indexAddr_row hW ho hs hx hi hc.1 hc.2 hρ
    ·cases h
   ·cases h
  ·split at h
   ·rename_i k bytes es i hs hx hi
    split at h
    ·rename_i h0
     split at h
     ·rename_i e he
      split at h
      ·rename_i hk;cases h;exact op_indexAddr hW ho hs hx hi h0 he hk hρ
      ·cases h
     ·cases h
    ·cases h
   ·cases h
 ·rename_i t x ix ho
  split at h
  ·rename_i s i hx hi ht
   split at h
   ·rename_i h0
    split at h
    ·rename_i b hb;cases h;exact op_index hW ho ht hx hi h0 hb hρ
    ·cases h
   ·cases h
  ·cases h
 ·rename_i x i ho
  split at h
  ·rename_i ps hx
   split at h
   ·rename_i p hp;cases h;exact op_extract hW ho hx hp hρ
   ·cases h
  ·cases h
 ·rename_i t x ho
  split at h
  ·cases h
  ·cases h
  ·rename_i p hp h1 h2;cases h;exact op_makeInterface hW ho hp (fun e=>h1 e) (fun e=>h2 e) hρ
  ·cases h
 ·rename_i b args tys ho
  exact op_builtin hW ho h hρ hus hfr hloc
 ·rename_i t ho
  split at h
  ·rename_i d hd
   exact op_makeMap hW ho h (hloc _ (by simp[laysBox,ho,hd]))
  ·cases h
 ·rename_i t x ho
  split at h
  ·rename_i d y hd hx
   split at h
   ·rename_i ht
    exact op_makeMapR hW ho hx ht h hρ (hloc _ (by simp[laysBox,ho,hd]))
   ·cases h
  ·cases h
 ·rename_i t m x v ho
  split at h
  ·rename_i ht
   split at h
   ·rename_i n i hm hx hv
    split at h
    ·rename_i k ks hb
     cases h
     exact op_mapUpdate hW ho ht hm hx hv hb hρ hbx
    ·cases h
   ·cases h
  ·cases h
 ·rename_i t m x v ho
  split at h
  ·rename_i ht
   split at h
   ·rename_i n i y hm hx hv
    split at h
    ·rename_i k ks hb
     split at h
     ·cases h
     ·rename_i hi
      cases h
      exact op_mapUpdateI hW ho ht hm hx hv hb hi hρ hbx
    ·cases h
   ·cases h
  ·cases h
 ·rename_i t m x ok ho
  split at h
  ·rename_i ht
   split at h
   ·rename_i n i hm hx
    split at h
    ·rename_i k ks hb
     cases h
     exact op_lookup hW ho ht hm hx hb hρ hbx
    ·cases h
   ·cases h
  ·cases h
 ·cases h
end ops
end Go.Abs
namespace Go.Abs
open Go
def RepSVs (G:Gh) (used:List Nat):List SV→List Value→Prop
 | [],vs=>vs=[]
 |x::xs,vs=>∃v rest,vs=v::rest∧RepSV G used x v∧RepSVs G used xs rest
theorem RepSVs.length {G:Gh}{used:List Nat}:∀{xs:List SV}{vs:List Value},RepSVs G used xs vs→xs.length=vs.length
 | [],vs,h=>by simp only[RepSVs] at h;simp[h]
 |x::xs,vs,h=>by
  simp only[RepSVs] at h
  obtain ⟨v,rest,rfl,_,h3⟩:=h
  simp[RepSVs.length h3]
theorem RepSVs.get {G:Gh}{used:List Nat}:∀{xs:List SV}{vs:List Value},RepSVs G used xs vs→∀(i:Nat) (x:SV),xs[i]? = some x→∃v,vs[i]? = some v∧RepSV G used x v
 | [],vs,h,i,x,hi=>by simp at hi
 |y::xs,vs,h,i,x,hi=>by
  simp only[RepSVs] at h
  obtain ⟨v,rest,rfl,h2,h3⟩:=h
  cases i with
  |zero=>simp at hi;subst hi;exact ⟨v,rfl,h2⟩
  |succ i=>simpa using RepSVs.get h3 i x (by simpa using hi)
theorem RepSVs.append {G:Gh}{used:List Nat}:∀{ps qs:List SV}{vs us:List Value},RepSVs G used ps vs→RepSVs G used qs us→RepSVs G used (ps++qs) (vs++us)
 | [],qs,vs,us,h,h'=>by simp only[RepSVs] at h;subst h;simpa using h'
 |p::ps,qs,vs,us,h,h'=>by
  simp only[RepSVs] at h
  obtain ⟨v,rest,rfl,h2,h3⟩:=h
  simp only[List.cons_append,RepSVs]
  exact ⟨v,rest++us,rfl,h2,RepSVs.append h3 h'⟩
def bodied (P:Program) (f:FuncId):Bool:=
 match P.funcs[f]? with
 |some fn=>fn.body.isSome&&!(fn.name== "runtime.NumGoroutine")
 |none=>false
def isRef (n:Nm) (len:Nat):Prop:=∃j,n=.ref j∧j<len
def Spec (P:Program) (f:FuncId) (args:List SV) (refs:List Box) (r:PV) (refs':List Box):Prop:=
 bodied P f=true∧refs'.length=refs.length∧∀(G:Gh) (w:World) (vs:Array Value),
  WInv G w→(∀t,G.tok t≠none→t % 2=0)→(∀n,G.blk n≠none→isRef n refs.length)→(∀j bx,refs[j]? = some bx→BoxAt G [] w (.ref j) bx)→RepSVs G [] args vs.toList →
  Calls P f vs w fun e w'=>∃v G',e=.returned v∧Rep G'.I r v∧WInv G' w'∧Ext G G' w w' (fun n=>isRef n refs.length) (fun _=>True)∧(∀j bx,refs'[j]? = some bx→BoxAt G' [] w' (.ref j) bx)
def SpecP (P:Program) (f:FuncId) (args:List SV) (refs:List Box) (p:PV) (refs':List Box):Prop:=
 bodied P f=true∧refs'.length=refs.length∧∀(G:Gh) (w:World) (vs:Array Value),
  WInv G w→(∀t,G.tok t≠none→t % 2=0)→(∀n,G.blk n≠none→isRef n refs.length)→(∀j bx,refs[j]? = some bx→BoxAt G [] w (.ref j) bx)→RepSVs G [] args vs.toList →
  Calls P f vs w fun e w'=>∃v G',e=.panicked [{v:=v,recovered:=false}]∧Rep G'.I p v∧WInv G' w'∧Ext G G' w w' (fun n=>isRef n refs.length) (fun _=>True)∧(∀j bx,refs'[j]? = some bx→BoxAt G' [] w' (.ref j) bx)
def SpecX (P:Program) (f:FuncId) (args:List SV) (k:Sz) (es:List PV):Prop:=
 bodied P f=true∧(∀e∈es,e.hasSz k=true)∧∀(G:Gh) (w:World) (vs:Array Value),
  WInv G w→(∀t,G.tok t=none)→(∀n,G.blk n=none)→RepSVs G [] args vs.toList →
  Calls P f vs w fun e w'=>∃v G' t tk,e=.returned v∧G'.tok t=some tk∧ExAt G'.I tk k es v∧WInv G' w'∧Ext G G' w w' (fun _=>False) (fun _=>True)
/-! Sending boxes to a call, and taking them back -/
def idx (names:List Nm) (n:Nm):Option Nat:=
 match names with
 | []=>none
 |m::r=>if m=n then some 0 else (idx r n).map (· + 1)
theorem idx_get:∀{names:List Nm}{n:Nm}{j:Nat},idx names n=some j→names[j]? = some n
 | [],n,j,h=>by simp[idx] at h
 |m::r,n,j,h=>by
  simp only[idx] at h
  split at h
  ·rename_i hm;cases h;simp[hm]
  ·simp only[Option.map_eq_some_iff] at h
   obtain ⟨i,hi,rfl⟩:=h
   simpa using idx_get hi
def sendCaps (names:List Nm):List Cap→Option (List Cap)
 | []=>some []
 | .pv p::cs=>(sendCaps names cs).map (.pv p :: ·)
 | .ptr n off::cs=>match idx names n with
  |some j=>(sendCaps names cs).map (.ptr (.ref j) off :: ·)
  |none=>none
def sendSC (names:List Nm):SC→Option SC
 | .pv p=>some (.pv p)
 | .ptr n off=>match idx names n with
  |some j=>some (.ptr (.ref j) off)
  |none=>none
 | .own t k es=>some (if t % 2=0 then .own t k es else .pv (.slice es))
 | .ex t k es=>if t % 2=0 then some (.ex t k es) else none
 | .nilS=>some .nilS
 | .fn f caps=>(sendCaps names caps).map (.fn f)
 | .any=>some .any
 | .mp n=>match idx names n with
  |some j=>some (.mp (.ref j))
  |none=>none
 | .mpc ks=>some (.mpc ks)
 | .rw n m=>match idx names n with
  |some j=>some (.rw (.ref j) m)
  |none=>none
 | .rwc k es=>some (.rwc k es)
 | .sl n=>match idx names n with
  |some j=>some (.sl (.ref j))
  |none=>none
def sendSCs (names:List Nm):List SC→Option (List SC)
 | []=>some []
 |c::cs=>match sendSC names c with
  |some d=>(sendSCs names cs).map (d :: ·)
  |none=>none
def sendSV (names:List Nm):SV→Option SV
 | .one c=>(sendSC names c).map .one
 | .agg cs=>(sendSCs names cs).map .agg
def plainSC:SC→SC
 | .own _ _ es=>.pv (.slice es)
 | .nilS=>.pv (.slice [])
 | .ex _ _ _=>.any
 |c=>c
def plainSV:SV→SV
 | .one c=>.one (plainSC c)
 | .agg cs=>.agg (cs.map plainSC)
def sendArg (names:List Nm) (x:SV):Option SV:=
 match x.pv? with
 |some p=>some (.one (.pv p))
 |none=>(sendSV names x).map plainSV
def sendArgs (names:List Nm):List SV→Option (List SV)
 | []=>some []
 |x::xs=>match sendArg names x with
  |some y=>(sendArgs names xs).map (y :: ·)
  |none=>none
def sendBoxes (names:List Nm) (bx:Nm→Option Box):List Nm→Option (List Box)
 | []=>some []
 |n::r=>match bx n with
  |some b=>match sendSV names b.c with
   |some c=>(sendBoxes names bx r).map (⟨b.k,c⟩ :: ·)
   |none=>none
  |none=>none
def scToks:SC→List Nat
 | .own t _ _=>[t]
 | .ex t _ _=>[t]
 |_=>[]
def svToks:SV→List Nat
 | .one c=>scToks c
 | .agg cs=>cs.flatMap scToks
def boxToks (l:List Box):List Nat:=l.flatMap fun b=>svToks b.c
def recvCaps (names:List Nm):List Cap→Option (List Cap)
 | []=>some []
 | .pv p::cs=>(recvCaps names cs).map (.pv p :: ·)
 | .ptr (.ref j) off::cs=>match names[j]? with
  |some n=>(recvCaps names cs).map (.ptr n off :: ·)
  |none=>none
 | .ptr (.loc _) _::_=>none
def recvSC (names:List Nm) (star:Option Nat) (t0:Nat):SC→SC
 | .pv p=>.pv p
 | .ptr (.ref j) off=>match names[j]? with
  |some n=>.ptr n off
  |none=>.any
 | .ptr (.loc _) _=>.any
 | .own t k es=>if star=some t then .own t0 k es else .pv (.slice es)
 | .ex t k es=>if star=some t then .ex t0 k es else .any
 | .nilS=>.nilS
 | .fn f caps=>match recvCaps names caps with
  |some cs=>.fn f cs
  |none=>.any
 | .any=>.any
 | .mp (.ref j)=>match names[j]? with
  |some n=>.mp n
  |none=>.any
 | .mp (.loc _)=>.any
 | .mpc ks=>.mpc ks
 | .rw (.ref j) m=>match names[j]? with
  |some n=>.rw n m
  |none=>.any
 | .rw (.loc _) _=>.any
 | .rwc k es=>.rwc k es
 | .sl (.ref j)=>match names[j]? with
  |some n=>.sl n
  |none=>.any
 | .sl (.loc _)=>.any
def recvSV (names:List Nm) (star:Option Nat) (t0:Nat):SV→SV
 | .one c=>.one (recvSC names star t0 c)
 | .agg cs=>.agg (cs.map (recvSC names star t0))
def capSV:Cap→SV
 | .pv p=>.one (.pv p)
 | .ptr n off=>.one (.ptr n off)
/-! Their laws -/
def Gh.send (G:Gh) (names:List Nm) (toks:List Nat):Gh:=
 ⟨G.I,fun n=>match n with | .ref j=>(names[j]?).bind G.blk | .loc _=>none,fun t=>if t∈toks then G.tok t else none,fun n=>match n with | .ref j=>((names[j]?).map G.cap).getD 0 | .loc _=>0⟩
theorem sendCaps_rep {G:Gh}{names:List Nm}{toks:List Nat}:∀{cs ds:List Cap}{vs:List Value},RepCaps G cs vs→sendCaps names cs=some ds→RepCaps (G.send names toks) ds vs
 | [],ds,vs,h,hs=>by simp[sendCaps] at hs;subst hs;simpa [RepCaps] using h
 | .pv p::cs,ds,vs,h,hs=>by
  simp only[sendCaps,Option.map_eq_some_iff] at hs
  obtain ⟨es,he,rfl⟩:=hs
  simp only[RepCaps] at h ⊢
  obtain ⟨v,rest,rfl,h2,h3⟩:=h
  exact ⟨v,rest,rfl,h2,sendCaps_rep h3 he⟩
 | .ptr n off::cs,ds,vs,h,hs=>by
  simp only[sendCaps] at hs
  split at hs
  ·rename_i j hj
   simp only[Option.map_eq_some_iff] at hs
   obtain ⟨es,he,rfl⟩:=hs
   simp only[RepCaps] at h ⊢
   obtain ⟨b,rest,rfl,h2,h3⟩:=h
   refine ⟨b,rest,rfl,?_,sendCaps_rep h3 he⟩
   simp[Gh.send,idx_get hj,h2]
  ·cases hs
theorem sendSC_rep {G:Gh}{used:List Nat}{names:List Nm}{toks:List Nat}{c d:SC}{v:Value}(h:RepSC G used c v) (hs:sendSC names c=some d) (ht:∀t∈scToks d,t∈toks) (hu:∀t∈toks,t∉used):RepSC (G.send names toks) [] d v:=by
 cases c with
 |pv p=>simp[sendSC] at hs;subst hs;exact h
 |ptr n off=>
  simp only[sendSC] at hs
  split at hs
  ·rename_i j hj
   cases hs
   simp only[RepSC] at h ⊢
   obtain ⟨b,h1,h2⟩:=h
   exact ⟨b,by simp[Gh.send,idx_get hj,h1],h2⟩
  ·cases hs
 |own t k es=>
  simp only[sendSC,Option.some.injEq] at hs
  simp only[RepSC] at h
  split at hs
  ·subst hs
   simp only[RepSC]
   have hin:t∈toks:=ht t (by simp[scToks])
   refine ⟨h.1,h.2.1,fun _=>?_⟩
   obtain ⟨tk,h1,h2⟩:=h.2.2 (hu t hin)
   exact ⟨tk,by simp[Gh.send,hin,h1],h2⟩
  ·subst hs;exact h.1
 |ex t k es=>
  simp only[sendSC] at hs
  simp only[RepSC] at h
  split at hs
  ·cases hs
   simp only[RepSC]
   have hin:t∈toks:=ht t (by simp[scToks])
   refine ⟨h.1,h.2.1,fun _=>?_⟩
   obtain ⟨tk,h1,h2⟩:=h.2.2 (hu t hin)
   exact ⟨tk,by simp[Gh.send,hin,h1],h2⟩
  ·cases hs
 |nilS=>simp[sendSC] at hs;subst hs;exact h
 |fn f caps=>
  simp only[sendSC,Option.map_eq_some_iff] at hs
  obtain ⟨ds,hd,rfl⟩:=hs
  simp only[RepSC] at h ⊢
  obtain ⟨cv,rfl,h2⟩:=h
  exact ⟨cv,rfl,sendCaps_rep h2 hd⟩
 |any=>simp[sendSC] at hs;subst hs;trivial
 |mp n=>
  simp only[sendSC] at hs
  split at hs
  ·rename_i j hj
   cases hs
   simp only[RepSC] at h ⊢
   obtain ⟨b,h1,h2⟩:=h
   exact ⟨b,by simp[Gh.send,idx_get hj,h1],h2⟩
  ·cases hs
 |mpc ks=>exact h.elim
 |rw n m=>
  simp only[sendSC] at hs
  split at hs
  ·rename_i j hj
   cases hs
   simp only[RepSC] at h ⊢
   obtain ⟨b,cap,h1,h2,h3,h4,h5⟩:=h
   exact ⟨b,cap,by simp[Gh.send,idx_get hj,h1],h2,h3,h4,by simp[Gh.send,idx_get hj,h5]⟩
  ·cases hs
 |rwc k es=>exact h.elim
 |sl n=>
  simp only[sendSC] at hs
  split at hs
  ·rename_i j hj
   cases hs
   simp only[RepSC] at h
   obtain ⟨b,h1,h2⟩:=h
   exact ⟨b,by simp[Gh.send,idx_get hj,h1],h2⟩
  ·cases hs
theorem sendSCs_rep {G:Gh}{used:List Nat}{names:List Nm}{toks:List Nat}:∀{cs ds:List SC}{vs:List Value},RepSCs G used cs vs→sendSCs names cs=some ds→(∀t∈ds.flatMap scToks,t∈toks)→(∀t∈toks,t∉used)→RepSCs (G.send names toks) [] ds vs
 | [],ds,vs,h,hs,_,_=>by simp[sendSCs] at hs;subst hs;simpa [RepSCs] using h
 |c::cs,ds,vs,h,hs,ht,hu=>by
  simp only[sendSCs] at hs
  split at hs
  ·rename_i d hd
   simp only[Option.map_eq_some_iff] at hs
   obtain ⟨es,he,rfl⟩:=hs
   simp only[RepSCs] at h ⊢
   obtain ⟨v,rest,rfl,h2,h3⟩:=h
   simp only[List.flatMap_cons] at ht
   exact ⟨v,rest,rfl,sendSC_rep h2 hd (fun t hx=>ht t (List.mem_append_left _ hx)) hu,sendSCs_rep h3 he (fun t hx=>ht t (List.mem_append_right _ hx)) hu⟩
  ·cases hs
theorem sendSV_rep {G:Gh}{used:List Nat}{names:List Nm}{toks:List Nat}{x y:SV}{v:Value}(h:RepSV G used x v) (hs:sendSV names x=some y) (ht:∀t∈svToks y,t∈toks) (hu:∀t∈toks,t∉used):RepSV (G.send names toks) [] y v:=by
 cases x with
 |one c=>
  simp only[sendSV,Option.map_eq_some_iff] at hs
  obtain ⟨d,hd,rfl⟩:=hs
  exact sendSC_rep h hd ht hu
 |agg cs=>
  simp only[sendSV,Option.map_eq_some_iff] at hs
  obtain ⟨ds,hd,rfl⟩:=hs
  obtain ⟨vs,rfl,h2,h3⟩:=h
  exact ⟨vs,rfl,sendSCs_rep h2 hd ht hu,h3⟩
theorem sendSC_plain_rep {G:Gh}{used:List Nat}{names:List Nm}{toks:List Nat}{c d:SC}{v:Value}(h:RepSC G used c v) (hs:sendSC names c=some d):RepSC (G.send names toks) [] (plainSC d) v:=by
 cases c with
 |pv p=>simp[sendSC] at hs;subst hs;exact h
 |ptr n off=>
  simp only[sendSC] at hs
  split at hs
  ·rename_i j hj
   cases hs
   simp only[RepSC] at h
   obtain ⟨b,h1,h2⟩:=h
   exact ⟨b,by simp[Gh.send,idx_get hj,h1],h2⟩
  ·cases hs
 |own t k es=>
  simp only[sendSC,Option.some.injEq] at hs
  simp only[RepSC] at h
  split at hs<;>subst hs<;>exact h.1
 |ex t k es=>
  simp only[sendSC] at hs
  split at hs
  ·cases hs;trivial
  ·cases hs
 |nilS=>
  simp[sendSC] at hs;subst hs
  exact SC.pv_rep (G:=G) (used:=used) h rfl
 |fn f caps=>
  simp only[sendSC,Option.map_eq_some_iff] at hs
  obtain ⟨ds,hd,rfl⟩:=hs
  simp only[RepSC] at h
  obtain ⟨cv,rfl,h2⟩:=h
  exact ⟨cv,rfl,sendCaps_rep h2 hd⟩
 |any=>simp[sendSC] at hs;subst hs;trivial
 |mp n=>
  simp only[sendSC] at hs
  split at hs
  ·rename_i j hj
   cases hs
   simp only[RepSC] at h
   obtain ⟨b,h1,h2⟩:=h
   exact ⟨b,by simp[Gh.send,idx_get hj,h1],h2⟩
  ·cases hs
 |mpc ks=>exact h.elim
 |rw n m=>
  simp only[sendSC] at hs
  split at hs
  ·rename_i j hj
   cases hs
   simp only[RepSC] at h
   obtain ⟨b,cap,h1,h2,h3,h4,h5⟩:=h
   exact ⟨b,cap,by simp[Gh.send,idx_get hj,h1],h2,h3,h4,by simp[Gh.send,idx_get hj,h5]⟩
  ·cases hs
 |rwc k es=>exact h.elim
 |sl n=>
  simp only[sendSC] at hs
  split at hs
  ·rename_i j hj
   cases hs
   simp only[RepSC] at h
   obtain ⟨b,h1,h2⟩:=h
   exact ⟨b,by simp[Gh.send,idx_get hj,h1],h2⟩
  ·cases hs
theorem sendSCs_plain_rep {G:Gh}{used:List Nat}{names:List Nm}{toks:List Nat}:∀{cs ds:List SC}{vs:List Value},RepSCs G used cs vs→sendSCs names cs=some ds→RepSCs (G.send names toks) [] (ds.map plainSC) vs
 | [],ds,vs,h,hs=>by simp[sendSCs] at hs;subst hs;simpa [RepSCs] using h
 |c::cs,ds,vs,h,hs=>by
  simp only[sendSCs] at hs
  split at hs
  ·rename_i d hd
   simp only[Option.map_eq_some_iff] at hs
   obtain ⟨es,he,rfl⟩:=hs
   simp only[RepSCs,List.map_cons] at h ⊢
   obtain ⟨v,rest,rfl,h2,h3⟩:=h
   exact ⟨v,rest,rfl,sendSC_plain_rep h2 hd,sendSCs_plain_rep h3 he⟩
  ·cases hs
theorem sendArg_rep {G:Gh}{used:List Nat}{names:List Nm}{toks:List Nat}{x y:SV}{v:Value}(h:RepSV G used x v) (hs:sendArg names x=some y):RepSV (G.send names toks) [] y v:=by
 unfold sendArg at hs
 split at hs
 ·rename_i p hp
  cases hs
  show Rep G.I p v
  exact SV.pv_rep h hp
 ·simp only[Option.map_eq_some_iff] at hs
  obtain ⟨z,hz,rfl⟩:=hs
  cases x with
  |one c=>
   simp only[sendSV,Option.map_eq_some_iff] at hz
   obtain ⟨d,hd,rfl⟩:=hz
   exact sendSC_plain_rep h hd
  |agg cs=>
   simp only[sendSV,Option.map_eq_some_iff] at hz
   obtain ⟨ds,hd,rfl⟩:=hz
   obtain ⟨vs,rfl,h2,h3⟩:=h
   exact ⟨vs,rfl,sendSCs_plain_rep h2 hd,h3⟩
theorem sendArgs_rep {G:Gh}{used:List Nat}{names:List Nm}{toks:List Nat}:∀{xs ys:List SV}{vs:List Value},RepSVs G used xs vs→sendArgs names xs=some ys→RepSVs (G.send names toks) [] ys vs
 | [],ys,vs,h,hs=>by simp[sendArgs] at hs;subst hs;simpa [RepSVs] using h
 |x::xs,ys,vs,h,hs=>by
  simp only[sendArgs] at hs
  split at hs
  ·rename_i y hy
   simp only[Option.map_eq_some_iff] at hs
   obtain ⟨es,he,rfl⟩:=hs
   simp only[RepSVs] at h ⊢
   obtain ⟨v,rest,rfl,h2,h3⟩:=h
   exact ⟨v,rest,rfl,sendArg_rep h2 hy,sendArgs_rep h3 he⟩
  ·cases hs
theorem sendBoxes_get {names:List Nm}{bx:Nm→Option Box}:∀{l:List Nm}{refs:List Box},sendBoxes names bx l=some refs→refs.length=l.length∧∀(j:Nat) (r:Box),refs[j]? = some r→∃n b c,l[j]? = some n∧bx n=some b∧sendSV names b.c=some c∧r=⟨b.k,c⟩
 | [],refs,h=>by simp[sendBoxes] at h;subst h;simp
 |n::l,refs,h=>by
  simp only[sendBoxes] at h
  split at h
  ·rename_i b hb
   split at h
   ·rename_i c hc
    simp only[Option.map_eq_some_iff] at h
    obtain ⟨rs,hr,rfl⟩:=h
    obtain ⟨h1,h2⟩:=sendBoxes_get hr
    refine ⟨by simp[h1],fun j r hj=>?_⟩
    cases j with
    |zero=>simp at hj;subst hj;exact ⟨n,b,c,rfl,hb,hc,rfl⟩
    |succ j=>simpa using h2 j r (by simpa using hj)
   ·cases h
  ·cases h
def Gh.recv (G G':Gh) (toks:List Nat) (star:Option Nat) (t0:Nat):Gh:=
 ⟨G'.I,G.blk,fun t=>if t=t0∧star.isSome then star.bind G'.tok else if t∈toks then none else G.tok t,G.cap⟩
theorem recvCaps_rep {G G':Gh}{names:List Nm}{toks:List Nat}{star:Option Nat}{t0:Nat}(hb:∀j n,names[j]? = some n→∀b,G'.blk (.ref j)=some b→G.blk n=some b) :
  ∀{cs ds:List Cap}{vs:List Value},RepCaps G' cs vs→recvCaps names cs=some ds→RepCaps (G.recv G' toks star t0) ds vs
 | [],ds,vs,h,hs=>by simp[recvCaps] at hs;subst hs;simpa [RepCaps] using h
 | .pv p::cs,ds,vs,h,hs=>by
  simp only[recvCaps,Option.map_eq_some_iff] at hs
  obtain ⟨es,he,rfl⟩:=hs
  simp only[RepCaps] at h ⊢
  obtain ⟨v,rest,rfl,h2,h3⟩:=h
  exact ⟨v,rest,rfl,h2,recvCaps_rep hb h3 he⟩
 | .ptr (.ref j) off::cs,ds,vs,h,hs=>by
  simp only[recvCaps] at hs
  split at hs
  ·rename_i n hn
   simp only[Option.map_eq_some_iff] at hs
   obtain ⟨es,he,rfl⟩:=hs
   simp only[RepCaps] at h ⊢
   obtain ⟨b,rest,rfl,h2,h3⟩:=h
   exact ⟨b,rest,rfl,hb j n hn b h2,recvCaps_rep hb h3 he⟩
  ·cases hs
 | .ptr (.loc d) off::cs,ds,vs,h,hs=>by simp[recvCaps] at hs
theorem recvSC_rep {G G':Gh}{used:List Nat}{names:List Nm}{toks:List Nat}{star:Option Nat}{t0:Nat}(hb:∀j n,names[j]? = some n→∀b,G'.blk (.ref j)=some b→G.blk n=some b∧G'.cap (.ref j)=G.cap n) {c:SC}{v:Value}(h:RepSC G' [] c v) :
  RepSC (G.recv G' toks star t0) used (recvSC names star t0 c) v:=by
 cases c with
 |pv p=>exact h
 |ptr n off=>
  simp only[RepSC] at h
  obtain ⟨b,h1,h2⟩:=h
  cases n with
  |loc d=>trivial
  |ref j=>
   simp only[recvSC]
   split
   ·rename_i n hn
    exact ⟨b,(hb j n hn b h1).1,h2⟩
   ·trivial
 |own t k es=>
  simp only[RepSC] at h
  simp only[recvSC]
  split
  ·rename_i hs
   refine ⟨h.1,h.2.1,fun _=>?_⟩
   obtain ⟨tk,h1,h2⟩:=h.2.2 (by simp)
   exact ⟨tk,by simp[Gh.recv,hs,h1],h2⟩
  ·exact h.1
 |ex t k es=>
  simp only[RepSC] at h
  simp only[recvSC]
  split
  ·rename_i hs
   refine ⟨h.1,h.2.1,fun _=>?_⟩
   obtain ⟨tk,h1,h2⟩:=h.2.2 (by simp)
   exact ⟨tk,by simp[Gh.recv,hs,h1],h2⟩
  ·trivial
 |nilS=>exact h
 |fn f caps=>
  simp only[RepSC] at h
  obtain ⟨cv,rfl,h2⟩:=h
  simp only[recvSC]
  split
  ·rename_i cs hcs
   exact ⟨cv,rfl,recvCaps_rep (fun j n hn b h=>(hb j n hn b h).1) h2 hcs⟩
  ·trivial
 |any=>trivial
 |mp n=>
  simp only[RepSC] at h
  obtain ⟨b,h1,h2⟩:=h
  cases n with
  |loc d=>trivial
  |ref j=>
   simp only[recvSC]
   split
   ·rename_i n hn
    exact ⟨b,(hb j n hn b h1).1,h2⟩
   ·trivial
 |mpc ks=>exact h.elim
 |rw n m=>
  simp only[RepSC] at h
  obtain ⟨b,cap,h1,h2,h3,h4,h5⟩:=h
  cases n with
  |loc d=>trivial
  |ref j=>
   simp only[recvSC]
   split
   ·rename_i n hn
    exact ⟨b,cap,(hb j n hn b h1).1,h2,h3,h4,by show G.cap n=cap;rw[←(hb j n hn b h1).2];exact h5⟩
   ·trivial
 |rwc k es=>exact h.elim
 |sl n=>
  simp only[RepSC] at h
  obtain ⟨b,h1,h2⟩:=h
  cases n with
  |loc d=>trivial
  |ref j=>
   simp only[recvSC]
   split
   ·rename_i n hn
    exact ⟨b,(hb j n hn b h1).1,h2⟩
   ·trivial
theorem recvSV_rep {G G':Gh}{used:List Nat}{names:List Nm}{toks:List Nat}{star:Option Nat}{t0:Nat}(hb:∀j n,names[j]? = some n→∀b,G'.blk (.ref j)=some b→G.blk n=some b∧G'.cap (.ref j)=G.cap n) {x:SV}{v:Value}(h:RepSV G' [] x v) :
  RepSV (G.recv G' toks star t0) used (recvSV names star t0 x) v:=by
 cases x with
 |one c=>exact recvSC_rep hb (c:=c) h
 |agg cs=>
  obtain ⟨vs,rfl,h2,h3⟩:=h
  refine ⟨vs,rfl,?_,h3⟩
  have:∀{cs:List SC}{l:List Value},RepSCs G' [] cs l→RepSCs (G.recv G' toks star t0) used (cs.map (recvSC names star t0)) l:=by
   intro cs
   induction cs with
   |nil=>intro l h;simpa [RepSCs] using h
   |cons c cs ih=>
    intro l h
    simp only[RepSCs,List.map_cons] at h ⊢
    obtain ⟨v,rest,rfl,h4,h5⟩:=h
    exact ⟨v,rest,rfl,recvSC_rep hb h4,ih h5⟩
  exact this h2
end Go.Abs
namespace Go.Abs
open Go
theorem send_inv {G:Gh}{w:World}{names:List Nm}{toks:List Nat}(hW:WInv G w) (hnd:names.Nodup):WInv (G.send names toks) w:=by
 have hb:∀n b,(G.send names toks).blk n=some b→∃j m,n=.ref j∧names[j]? = some m∧G.blk m=some b:=by
  intro n b h
  cases n with
  |loc d=>simp[Gh.send] at h
  |ref j=>
   simp only[Gh.send,Option.bind_eq_some_iff] at h
   obtain ⟨m,h1,h2⟩:=h
   exact ⟨j,m,rfl,h1,h2⟩
 have ht:∀t tk,(G.send names toks).tok t=some tk→t∈toks∧G.tok t=some tk:=by
  intro t tk h
  simp only[Gh.send] at h
  split at h
  ·rename_i hin;exact ⟨hin,h⟩
  ·cases h
 refine ⟨hW.imm,?_,?_,?_,?_,?_,?_,fun g hg=>⟨(hW.glob g hg).1,fun n h=>by
  obtain ⟨j,m,_,_,hm⟩:=hb n g h
  exact (hW.glob g hg).2.1 m hm,fun t tk h=>(hW.glob g hg).2.2 t tk (ht t tk h).2⟩⟩
 ·intro n m b h1 h2
  obtain ⟨i,x,rfl,hi,hx⟩:=hb _ _ h1
  obtain ⟨j,y,rfl,hj,hy⟩:=hb _ _ h2
  have:=hW.inj x y b hx hy
  subst this
  have hi':=(List.getElem?_eq_some_iff.1 hi)
  have hj':=(List.getElem?_eq_some_iff.1 hj)
  obtain ⟨hil,hie⟩:=hi'
  obtain ⟨hjl,hje⟩:=hj'
  have he:=hie.trans hje.symm
  have hp:=List.pairwise_iff_getElem.1 hnd
  rcases Nat.lt_trichotomy i j with h|h|h
  ·exact absurd he (hp i j hil hjl h)
  ·rw[h]
  ·exact absurd he.symm (hp j i hjl hil h)
 ·intro n b h
  obtain ⟨i,x,rfl,_,hx⟩:=hb _ _ h
  exact hW.lt x b hx
 ·intro n b h o
  obtain ⟨i,x,rfl,_,hx⟩:=hb _ _ h
  exact hW.blkImm x b hx o
 ·intro t tk h
  exact hW.tokOk t tk (ht t tk h).2
 ·intro t t' tk tk' g h1 h2
  exact hW.tokInj t t' tk tk' g (ht _ _ h1).2 (ht _ _ h2).2
 ·intro t tk g n h1 h2 h3
  obtain ⟨i,x,rfl,_,hx⟩:=hb _ _ h3
  exact hW.tokBlk t tk g x (ht _ _ h1).2 h2 hx
theorem recv_ok {G G':Gh}{w w':World}{names:List Nm}{toks us:List Nat}{star:Option Nat}{t0:Nat}(hW:WInv G w) (hW':WInv G' w') (hnb:∀n∈names,∃b,G.blk n=some b)
  (hE:Ext (G.send names toks) G' w w' (fun n=>isRef n names.length) (fun _=>True)) (ht0:G.tok t0=none) (hus:∀t∈toks,t∈us) :
  WInv (G.recv G' toks star t0) w'∧Ext G (G.recv G' toks star t0) w w' (·∈names) (·∈us)∧(∀j n,names[j]? = some n→∀b,G'.blk (.ref j)=some b→G.blk n=some b∧G'.cap (.ref j)=G.cap n)∧(∀j n,names[j]? = some n→G'.blk (.ref j)=G.blk n):=by
 have hsb:∀j n,names[j]? = some n→(G.send names toks).blk (.ref j)=G.blk n:=fun j n h=>by simp[Gh.send,h]
 have hst:∀t tk,(G.send names toks).tok t=some tk→t∈toks∧G.tok t=some tk:=by
  intro t tk h
  simp only[Gh.send] at h
  split at h
  ·rename_i hin;exact ⟨hin,h⟩
  ·cases h
 have hTB:∀{g},TokBlk (G.send names toks) g (fun _=>True)→∃t∈toks,∃tk,G.tok t=some tk∧tk.g=some g:=by
  rintro g ⟨t,tk,_,h1,h2⟩
  obtain ⟨h3,h4⟩:=hst t tk h1
  exact ⟨t,h3,tk,h4,h2⟩
 have hTB':∀{g},TokBlk (G.send names toks) g (fun _=>True)→TokBlk G g (·∈us):=fun h=>by
  obtain ⟨t,h1,tk,h2,h3⟩:=hTB h
  exact ⟨t,tk,hus t h1,h2,h3⟩
 have hblk:∀j n,names[j]? = some n→G'.blk (.ref j)=G.blk n:=by
  intro j n hj
  obtain ⟨b,hb⟩:=hnb n (List.mem_of_getElem? hj)
  rw[hb]
  exact hE.mono _ _ (by rw[hsb j n hj];exact hb)
 -- the cells of an old block that is no box that was sent
 have hInone:∀n b,G.blk n=some b→∀o,G'.I b o=none:=by
  intro n b hn o
  by_cases hin:n∈names
  ·obtain ⟨j,hj⟩:=List.mem_iff_getElem?.1 hin
   exact hW'.blkImm (.ref j) b (by rw[hblk j n hj];exact hn) o
  ·cases hv:G'.I b o with
   |none=>rfl
   |some v=>
    rcases hE.INew b o v hv with h|h|h
    ·have:=hW.blkImm n b hn o
     have h':G.I b o=some v:=h
     rw[this] at h';cases h'
    ·have:=hW.lt n b hn;omega
    ·obtain ⟨t,_,tk,h1,h2⟩:=hTB h
     exact absurd hn (hW.tokBlk t tk b n h1 h2)
 have hsame:∀g,g<w.heap.size→(∀n,G.blk n≠some g)→¬TokBlk (G.send names toks) g (fun _=>True)→w'.heap[g]? = w.heap[g]? := by
  intro g hg h1 h2
  refine hE.heap g hg ?_ h2
  rintro n ⟨j,rfl,hj⟩ hb
  simp only[Gh.send,Option.bind_eq_some_iff] at hb
  obtain ⟨m,_,hm⟩:=hb
  exact h1 m hm
 have htokKeep:∀t tk,t∉toks→G.tok t=some tk→TkOk G' w' tk:=by
  intro t tk hnt ht
  refine (hW.tokOk t tk ht).keep fun g hg=>?_
  have hnT:¬TokBlk (G.send names toks) g (fun _=>True):=by
   intro h
   obtain ⟨t',h1,tk',h2,h3⟩:=hTB h
   have:=hW.tokInj t t' tk tk' g ht h2 hg h3
   subst this
   exact hnt h1
  refine ⟨hsame g (tok_lt hW ht hg) (fun n hn=>hW.tokBlk t tk g n ht hg hn) hnT,fun o v hv=>?_⟩
  rcases hE.INew g o v hv with h|h|h
  ·exact h
  ·have:=tok_lt hW ht hg;omega
  ·exact absurd h hnT
 have hnew:∀t tk g,G'.tok t=some tk→tk.g=some g→(∀n,G.blk n≠some g)∧(∀t' tk',t'∉toks→G.tok t'=some tk'→tk'.g≠some g):=by
  intro t tk g h1 h2
  rcases hE.tokNew t tk g h1 h2 with h|h|h
  ·obtain ⟨h3,h4⟩:=hst t tk h
   exact ⟨fun n hn=>hW.tokBlk t tk g n h4 h2 hn,fun t' tk' hn' ht' hg'=>hn' (by rw[hW.tokInj t' t tk' tk g ht' h4 hg' h2];exact h3)⟩
  ·exact ⟨fun n hn=>by have:=hW.lt n g hn;omega,fun t' tk' _ ht' hg'=>by have:=tok_lt hW ht' hg';omega⟩
  ·obtain ⟨t1,h3,tk1,h4,h5⟩:=hTB h
   exact ⟨fun n hn=>hW.tokBlk t1 tk1 g n h4 h5 hn,fun t' tk' hn' ht' hg'=>hn' (by rw[hW.tokInj t' t1 tk' tk1 g ht' h4 hg' h5];exact h3)⟩
 have hrt:∀t tk,(G.recv G' toks star t0).tok t=some tk→(t=t0∧∃s,star=some s∧G'.tok s=some tk)∨(t∉toks∧G.tok t=some tk):=by
  intro t tk h
  simp only[Gh.recv] at h
  split at h
  ·rename_i h0
   left
   obtain ⟨s,hs,hs2⟩:=Option.bind_eq_some_iff.1 h
   exact ⟨h0.1,s,hs,hs2⟩
  ·split at h
   ·cases h
   ·rename_i h1;exact .inr ⟨h1,h⟩
 have hgl:Glob (G.recv G' toks star t0) w':=fun g hg=>⟨(hW'.glob g hg).1,(hW.glob g hg).2.1,fun t tk h=>by
  rcases hrt t tk h with ⟨_,s,_,hs⟩|⟨_,h2⟩
  ·exact (hW'.glob g hg).2.2 s tk hs
  ·exact (hW.glob g hg).2.2 t tk h2⟩
 refine ⟨⟨hW'.imm,hW.inj,fun n b h=>by have:=hW.lt n b h;have:=hE.size;omega,hInone,?_,?_,?_,hgl⟩,?_,fun j n hj b hb=>⟨by rw[←hblk j n hj];exact hb,by
  rw[hE.cap (.ref j) (by rw[hsb j n hj,←hblk j n hj,hb];simp)];simp[Gh.send,hj]⟩,hblk⟩
 ·intro t tk h
  rcases hrt t tk h with ⟨_,s,_,hs⟩|⟨h1,h2⟩
  ·exact (hW'.tokOk s tk hs).keep fun _ _=>⟨rfl,fun _ _ h=>h⟩
  ·exact (htokKeep t tk h1 h2).keep fun _ _=>⟨rfl,fun _ _ h=>h⟩
 ·intro t t' tk tk' g h1 h2 h3 h4
  rcases hrt t tk h1 with ⟨rfl,s,hs,hs2⟩|⟨h5,h6⟩<;>rcases hrt t' tk' h2 with ⟨rfl,s',hs',hs2'⟩|⟨h7,h8⟩
  ·rfl
  ·exact absurd h4 ((hnew s tk g hs2 h3).2 t' tk' h7 h8)
  ·exact absurd h3 ((hnew s' tk' g hs2' h4).2 t tk h5 h6)
  ·exact hW.tokInj t t' tk tk' g h6 h8 h3 h4
 ·intro t tk g n h1 h2 hn
  rcases hrt t tk h1 with ⟨rfl,s,hs,hs2⟩|⟨h5,h6⟩
  ·exact (hnew s tk g hs2 h2).1 n hn
  ·exact hW.tokBlk t tk g n h6 h2 hn
 ·refine ⟨hE.I,fun b o v hv=>(hE.INew b o v hv).imp id (Or.imp id hTB'),fun _ _=>rfl,fun _ _ h=>h,fun _ _ h=>.inl h,?_,?_,?_,hE.size,hE.os,hE.tape,hE.output,fun _ _=>rfl⟩
  ·intro t hn tk ht
   show (if t=t0∧star.isSome then _ else if t∈toks then none else G.tok t)=_
   rw[if_neg (fun h=>by rw[h.1,ht0] at ht;cases ht),if_neg (fun h=>hn (hus t h))]
   exact ht
  ·intro t tk g h1 h2
   rcases hrt t tk h1 with ⟨rfl,s,hs,hs2⟩|⟨h5,h6⟩
   ·rcases hE.tokNew s tk g hs2 h2 with h|h|h
    ·obtain ⟨h3,h4⟩:=hst s tk h
     exact .inr (.inr ⟨s,tk,hus s h3,h4,h2⟩)
    ·exact .inr (.inl h)
    ·exact .inr (.inr (hTB' h))
   ·exact .inl h6
  ·intro b hb h1 h2
   refine hE.heap b hb ?_ (fun h=>h2 (hTB' h))
   rintro n ⟨j,rfl,hj⟩ hbk
   simp only[Gh.send,Option.bind_eq_some_iff] at hbk
   obtain ⟨m,hm1,hm2⟩:=hbk
   exact h1 m (List.mem_of_getElem? hm1) hm2
def Does (P:Program) (o:Oper) (act:Act) (w:World) (G:Gh) (used:List Nat) (e:Eff):Prop:=
 ∀(next:Act→World→Prop) (Q:Exit→Act→World→Prop),
  (∀v w' G',RepSV G' (e.2.2++used) e.1 v→WInv G' w'→Ext G G' w w' (fun n=>n∈e.2.1.map (·.1)) (·∈e.2.2)→(∀n b,(n,b)∈e.2.1→BoxAt G' (e.2.2++used) w' n b) →
   (∀t,G'.tok t≠none→G.tok t≠none∨tokOf o=some t)→(∀n,G'.blk n≠none→G.blk n≠none∨n∈e.2.1.map (·.1))→next (act.put o.dst v) w')→o.wp P act w next Q
def DoesP (P:Program) (o:Oper) (act:Act) (w:World) (G:Gh) (used:List Nat) (p:PV) (e:Eff):Prop:=
 ∀(next:Act→World→Prop) (Q:Exit→Act→World→Prop),
  (∀v w' G',Rep G'.I p v→WInv G' w'→Ext G G' w w' (fun n=>n∈e.2.1.map (·.1)) (·∈e.2.2)→(∀n b,(n,b)∈e.2.1→BoxAt G' (e.2.2++used) w' n b) →
   (∀t,G'.tok t≠none→G.tok t≠none∨tokOf o=some t)→(∀n,G'.blk n≠none→G.blk n≠none∨n∈e.2.1.map (·.1))→Q (.panic [{v:=v,recovered:=false}]) act w')→o.wp P act w next Q
theorem OpRes.does {P:Program}{o:Oper}{act:Act}{w:World}{G:Gh}{used:List Nat}{e:Eff}(h:OpRes P o act w G used e.1 e.2.1 e.2.2):Does P o act w G used e:=by
 intro next Q hn
 obtain ⟨v,w',G',hrun,h1,h2,h3,h4,h5,h6⟩:=h
 unfold Oper.wp
 rcases hrun with hrun|⟨hrun,rfl⟩
 ·rw[hrun,Oper.upon_value];exact hn v w' G' h1 h2 h3 h4 h5 h6
 ·rw[hrun,Oper.upon_skip];exact hn undef w' G' h1 h2 h3 h4 h5 h6
def calleeOf:SV→Option (FuncId×List SV)
 | .one (.pv (.fn f ps))=>some (f,ps.map fun p=>.one (.pv p))
 | .one (.fn f caps)=>some (f,caps.map capSV)
 |_=>none
def callEff (names:List Nm) (toks:List Nat) (d:Nat) (r:PV) (refs':List Box):Eff:=
 (.one (.pv r),names.zip (refs'.map fun b=>⟨b.k,recvSV names ((boxToks refs').head?) (2*d+1) b.c⟩),if (boxToks refs').isEmpty then toks else 2*d::toks)
theorem RepSVs_map {G:Gh}{used:List Nat}{ρ:Operand→SV}{act:Act}(hρ:∀x,RepSV G used (ρ x) (act.eval x)):∀l:List Operand,RepSVs G used (l.map ρ) (l.map act.eval)
 | []=>by simp[RepSVs]
 |x::l=>by
  simp only[List.map_cons,RepSVs]
  exact ⟨_,_,rfl,hρ x,RepSVs_map hρ l⟩
theorem RepSVs_caps {G:Gh}{used:List Nat}:∀{caps:List Cap}{vs:List Value},RepCaps G caps vs→RepSVs G used (caps.map capSV) vs
 | [],vs,h=>by simpa [RepCaps,RepSVs] using h
 | .pv p::caps,vs,h=>by
  simp only[RepCaps] at h
  obtain ⟨v,rest,rfl,h2,h3⟩:=h
  simp only[List.map_cons,RepSVs]
  exact ⟨v,rest,rfl,h2,RepSVs_caps h3⟩
 | .ptr n off::caps,vs,h=>by
  simp only[RepCaps] at h
  obtain ⟨b,rest,rfl,h2,h3⟩:=h
  simp only[List.map_cons,RepSVs]
  exact ⟨_,rest,rfl,⟨b,h2,rfl⟩,RepSVs_caps h3⟩
theorem RepSVs_pvs {G:Gh}{used:List Nat}:∀{ps:List PV}{vs:List Value},RepL G.I ps vs→RepSVs G used (ps.map fun p=>.one (.pv p)) vs
 | [],vs,h=>by rw[RepL] at h;simpa [RepSVs] using h
 |p::ps,vs,h=>by
  rw[RepL] at h
  obtain ⟨v,rest,rfl,h2,h3⟩:=h
  simp only[List.map_cons,RepSVs]
  exact ⟨v,rest,rfl,h2,RepSVs_pvs h3⟩
theorem call_does {P:Program}{o:Oper}{act:Act}{w:World}{G:Gh}{used:List Nat}{ρ:Operand→SV}{bx:Nm→Option Box}{fo:Operand}{args:Array Operand}{tys:Array TypeId}{f:FuncId}{caps:List SV}{names:List Nm}
  {xs:List SV}{refs refs':List Box}{r:PV}(hW:WInv G w) (ho:o.op=.call {callee:=.value fo,args,argTypes:=tys}) (hc:calleeOf (ρ fo)=some (f,caps)) (hnd:names.Nodup)
  (hxs:sendArgs names (args.toList.map ρ ++ caps)=some xs) (hrefs:sendBoxes names bx names=some refs) (hS:Spec P f xs refs r refs') (hu:∀t∈boxToks refs,t∉used) (heven:∀t∈boxToks refs,t % 2=0)
  (hρ:∀x,RepSV G used (ρ x) (act.eval x)) (hbx:∀n b,bx n=some b→BoxAt G used w n b) {d:Nat}(hd:o.dst=some d) (hfr:G.tok (2*d+1)=none) :
  Does P o act w G used (callEff names (boxToks refs) d r refs'):=by
 intro next Q hn
 obtain ⟨hbod,hlen,hS⟩:=hS
 obtain ⟨hrl,hrg⟩:=sendBoxes_get hrefs
 -- the callee
 have hcv:∃cv:Array Value,act.eval fo=.func (.func f) #[] cv∧RepSVs G used caps cv.toList:=by
  have hf:=hρ fo
  unfold calleeOf at hc
  split at hc
  ·rename_i f' ps heq
   cases hc
   rw[heq] at hf
   simp only[RepSV,RepSC] at hf
   rw[Rep] at hf
   obtain ⟨cv,h1,h2⟩:=hf
   exact ⟨cv,h1,RepSVs_pvs h2⟩
  ·rename_i f' cs heq
   cases hc
   rw[heq] at hf
   simp only[RepSV,RepSC] at hf
   obtain ⟨cv,h1,h2⟩:=hf
   exact ⟨cv,h1,RepSVs_caps h2⟩
  ·cases hc
 obtain ⟨cv,hfv,hcr⟩:=hcv
 have hrun:(execOp act.eval o).run P w=.ok (.enter f (args.map act.eval++cv)) w:=by
  unfold bodied at hbod
  cases hfn:P.funcs[f]? with
  |none=>simp[hfn] at hbod
  |some fn=>
   simp only[hfn,Bool.and_eq_true,Bool.not_eq_true'] at hbod
   have h1:fn.body≠none:=by intro hb;rw[hb] at hbod;simp at hbod
   have h2:fn.name≠ "runtime.NumGoroutine":=beq_eq_false_iff_ne.1 hbod.2
   simp[execOp,ho,resolve,hfv,Deferred.ofValue,invoke,callFunc,hfn,h1,h2]
 unfold Oper.wp
 rw[hrun,Oper.upon_enter]
 have hWs:=send_inv (toks:=boxToks refs) hW hnd
 have hargs:RepSVs (G.send names (boxToks refs)) [] xs (args.map act.eval++cv).toList:=by
  refine sendArgs_rep (used:=used) ?_ hxs
  rw[Array.toList_append,Array.toList_map]
  exact (RepSVs_map hρ _).append hcr
 have hboxes:∀j b,refs[j]? = some b→BoxAt (G.send names (boxToks refs)) [] w (.ref j) b:=by
  intro j b hj
  obtain ⟨n,b0,c,h1,h2,h3,rfl⟩:=hrg j b hj
  rcases hbx n b0 h2 with ⟨g,vs,T,u,h4,h5,h6,h7,h8⟩|⟨g,ks,es,clock,h4,h5,h6,h7⟩|h4
  ·refine .inl ⟨g,vs,T,u,by simp[Gh.send,h1,h4],h5,h6,h7,?_⟩
   exact sendSV_rep h8 h3 (fun t ht=>List.mem_flatMap.2 ⟨_,List.mem_of_getElem? hj,ht⟩) hu
  ·rw[h6] at h3
   cases h3
   exact .inr (.inl ⟨g,ks,es,clock,by simp[Gh.send,h1,h4],h5,rfl,h7⟩)
  ·exact .inr (.inr (h4.keep (Imm.le_refl _) (fun b hb=>⟨by simp[Gh.send,h1,hb],rfl⟩) (fun _=>by simp[Gh.send,h1]) fun k es e=>by rw[e] at h3;cases h3;rfl))
 have hev:∀t,(G.send names (boxToks refs)).tok t≠none→t % 2=0:=by
  intro t ht
  simp only[Gh.send] at ht
  split at ht
  ·rename_i h;exact heven t h
  ·exact absurd rfl ht
 have hsn:∀n,(G.send names (boxToks refs)).blk n≠none→isRef n refs.length:=by
  intro n h
  cases n with
  |loc d=>exact absurd rfl h
  |ref j=>
   refine ⟨j,rfl,?_⟩
   rw[hrl]
   simp only[Gh.send] at h
   cases hj:names[j]? with
   |none=>simp[hj] at h
   |some m=>exact (List.getElem?_eq_some_iff.1 hj).1
 refine (hS _ w _ hWs hev hsn hboxes hargs).mono ?_
 rintro e w' ⟨v,G',rfl,h1,h2,h3,h4⟩
 rw[hrl] at h3
 have hnb:∀n∈names,∃b,G.blk n=some b:=by
  intro n hn
  obtain ⟨j,hj⟩:=List.mem_iff_getElem?.1 hn
  have hjl:j<refs.length:=by rw[hrl];exact (List.getElem?_eq_some_iff.1 hj).1
  obtain ⟨n',b0,c,h5,h6,_⟩:=hrg j refs[j] (List.getElem?_eq_getElem hjl)
  rw[hj] at h5;cases h5
  exact (hbx n b0 h6).blk
 have hzip:∀(g:Box→Box) n b,(n,b)∈names.zip (refs'.map g)→∃(j:Nat) (b':Box),names[j]? = some n∧refs'[j]? = some b'∧b=g b':=by
  intro g n b hm
  obtain ⟨j,hj⟩:=List.mem_iff_getElem?.1 hm
  rw[List.getElem?_zip_eq_some] at hj
  obtain ⟨h5,h6⟩:=hj
  simp only[List.getElem?_map,Option.map_eq_some_iff] at h6
  obtain ⟨b',h7,h8⟩:=h6
  exact ⟨j,b',h5,h7,h8.symm⟩
 have hmap:∀(g:Box→Box),(names.zip (refs'.map g)).map (·.1)=names:=by
  intro g
  rw[List.map_fst_zip]
  simp[hlen,hrl]
 have hus:∀t∈boxToks refs,t∈(if (boxToks refs').isEmpty then boxToks refs else 2*d::boxToks refs):=by
  intro t ht;split
  ·exact ht
  ·exact List.mem_cons_of_mem _ ht
 obtain ⟨g1,g2,g3,g4⟩:=recv_ok (star:=(boxToks refs').head?) (t0:=2*d+1) hW h2 hnb h3 hfr hus
 refine hn v w' _ ?_ g1 ?_ ?_ ?_ ?_
 ·exact h1
 ·simp only[callEff]
  rw[hmap];exact g2
 ·intro n b hm
  simp only[callEff] at hm
  obtain ⟨j,b',h5,h6,rfl⟩:=hzip _ n b hm
  rcases h4 j b' h6 with ⟨g,vs,T,u,h7,h8,h9,h10,h11⟩|⟨g,ks,es,clock,h7,h8,h9,h10⟩|h7
  ·exact .inl ⟨g,vs,T,u,(g3 j n h5 g h7).1,h8,h9,h10,recvSV_rep g3 h11⟩
  ·exact .inr (.inl ⟨g,ks,es,clock,(g3 j n h5 g h7).1,h8,by rw[h9];rfl,h10⟩)
  ·exact .inr (.inr (h7.keep (Imm.le_refl _) (fun b hb=>⟨(g3 j n h5 b hb).1,rfl⟩) (fun hb=>by
    cases hc:G'.blk (.ref j) with
    |none=>exact absurd hc hb
    |some b=>exact (g3 j n h5 b hc).2.symm) fun k es e=>by show recvSV _ _ _ b'.c=_;rw[e];rfl))
 ·intro t ht
  simp only[Gh.recv] at ht
  split at ht
  ·rename_i h0;right;simp[tokOf,hd,h0.1]
  ·split at ht
   ·exact absurd rfl ht
   ·exact .inl ht
 ·intro n hn';exact .inl hn'
theorem call_doesP {P:Program}{o:Oper}{act:Act}{w:World}{G:Gh}{used:List Nat}{ρ:Operand→SV}{bx:Nm→Option Box}{fo:Operand}{args:Array Operand}{tys:Array TypeId}{f:FuncId}{caps:List SV}{names:List Nm}
  {xs:List SV}{refs refs':List Box}{r:PV}(hW:WInv G w) (ho:o.op=.call {callee:=.value fo,args,argTypes:=tys}) (hc:calleeOf (ρ fo)=some (f,caps)) (hnd:names.Nodup)
  (hxs:sendArgs names (args.toList.map ρ ++ caps)=some xs) (hrefs:sendBoxes names bx names=some refs) (hS:SpecP P f xs refs r refs') (hu:∀t∈boxToks refs,t∉used) (heven:∀t∈boxToks refs,t % 2=0)
  (hρ:∀x,RepSV G used (ρ x) (act.eval x)) (hbx:∀n b,bx n=some b→BoxAt G used w n b) {d:Nat}(hd:o.dst=some d) (hfr:G.tok (2*d+1)=none) :
  DoesP P o act w G used r (callEff names (boxToks refs) d r refs'):=by
 intro next Q hn
 obtain ⟨hbod,hlen,hS⟩:=hS
 obtain ⟨hrl,hrg⟩:=sendBoxes_get hrefs
 -- the callee
 have hcv:∃cv:Array Value,act.eval fo=.func (.func f) #[] cv∧RepSVs G used caps cv.toList:=by
  have hf:=hρ fo
  unfold calleeOf at hc
  split at hc
  ·rename_i f' ps heq
   cases hc
   rw[heq] at hf
   simp only[RepSV,RepSC] at hf
   rw[Rep] at hf
   obtain ⟨cv,h1,h2⟩:=hf
   exact ⟨cv,h1,RepSVs_pvs h2⟩
  ·rename_i f' cs heq
   cases hc
   rw[heq] at hf
   simp only[RepSV,RepSC] at hf
   obtain ⟨cv,h1,h2⟩:=hf
   exact ⟨cv,h1,RepSVs_caps h2⟩
  ·cases hc
 obtain ⟨cv,hfv,hcr⟩:=hcv
 have hrun:(execOp act.eval o).run P w=.ok (.enter f (args.map act.eval++cv)) w:=by
  unfold bodied at hbod
  cases hfn:P.funcs[f]? with
  |none=>simp[hfn] at hbod
  |some fn=>
   simp only[hfn,Bool.and_eq_true,Bool.not_eq_true'] at hbod
   have h1:fn.body≠none:=by intro hb;rw[hb] at hbod;simp at hbod
   have h2:fn.name≠ "runtime.NumGoroutine":=beq_eq_false_iff_ne.1 hbod.2
   simp[execOp,ho,resolve,hfv,Deferred.ofValue,invoke,callFunc,hfn,h1,h2]
 unfold Oper.wp
 rw[hrun,Oper.upon_enter]
 have hWs:=send_inv (toks:=boxToks refs) hW hnd
 have hargs:RepSVs (G.send names (boxToks refs)) [] xs (args.map act.eval++cv).toList:=by
  refine sendArgs_rep (used:=used) ?_ hxs
  rw[Array.toList_append,Array.toList_map]
  exact (RepSVs_map hρ _).append hcr
 have hboxes:∀j b,refs[j]? = some b→BoxAt (G.send names (boxToks refs)) [] w (.ref j) b:=by
  intro j b hj
  obtain ⟨n,b0,c,h1,h2,h3,rfl⟩:=hrg j b hj
  rcases hbx n b0 h2 with ⟨g,vs,T,u,h4,h5,h6,h7,h8⟩|⟨g,ks,es,clock,h4,h5,h6,h7⟩|h4
  ·refine .inl ⟨g,vs,T,u,by simp[Gh.send,h1,h4],h5,h6,h7,?_⟩
   exact sendSV_rep h8 h3 (fun t ht=>List.mem_flatMap.2 ⟨_,List.mem_of_getElem? hj,ht⟩) hu
  ·rw[h6] at h3
   cases h3
   exact .inr (.inl ⟨g,ks,es,clock,by simp[Gh.send,h1,h4],h5,rfl,h7⟩)
  ·exact .inr (.inr (h4.keep (Imm.le_refl _) (fun b hb=>⟨by simp[Gh.send,h1,hb],rfl⟩) (fun _=>by simp[Gh.send,h1]) fun k es e=>by rw[e] at h3;cases h3;rfl))
 have hev:∀t,(G.send names (boxToks refs)).tok t≠none→t % 2=0:=by
  intro t ht
  simp only[Gh.send] at ht
  split at ht
  ·rename_i h;exact heven t h
  ·exact absurd rfl ht
 have hsn:∀n,(G.send names (boxToks refs)).blk n≠none→isRef n refs.length:=by
  intro n h
  cases n with
  |loc d=>exact absurd rfl h
  |ref j=>
   refine ⟨j,rfl,?_⟩
   rw[hrl]
   simp only[Gh.send] at h
   cases hj:names[j]? with
   |none=>simp[hj] at h
   |some m=>exact (List.getElem?_eq_some_iff.1 hj).1
 refine (hS _ w _ hWs hev hsn hboxes hargs).mono ?_
 rintro e w' ⟨v,G',rfl,h1,h2,h3,h4⟩
 rw[hrl] at h3
 have hnb:∀n∈names,∃b,G.blk n=some b:=by
  intro n hn
  obtain ⟨j,hj⟩:=List.mem_iff_getElem?.1 hn
  have hjl:j<refs.length:=by rw[hrl];exact (List.getElem?_eq_some_iff.1 hj).1
  obtain ⟨n',b0,c,h5,h6,_⟩:=hrg j refs[j] (List.getElem?_eq_getElem hjl)
  rw[hj] at h5;cases h5
  exact (hbx n b0 h6).blk
 have hzip:∀(g:Box→Box) n b,(n,b)∈names.zip (refs'.map g)→∃(j:Nat) (b':Box),names[j]? = some n∧refs'[j]? = some b'∧b=g b':=by
  intro g n b hm
  obtain ⟨j,hj⟩:=List.mem_iff_getElem?.1 hm
  rw[List.getElem?_zip_eq_some] at hj
  obtain ⟨h5,h6⟩:=hj
  simp only[List.getElem?_map,Option.map_eq_some_iff] at h6
  obtain ⟨b',h7,h8⟩:=h6
  exact ⟨j,b',h5,h7,h8.symm⟩
 have hmap:∀(g:Box→Box),(names.zip (refs'.map g)).map (·.1)=names:=by
  intro g
  rw[List.map_fst_zip]
  simp[hlen,hrl]
 have hus:∀t∈boxToks refs,t∈(if (boxToks refs').isEmpty then boxToks refs else 2*d::boxToks refs):=by
  intro t ht;split
  ·exact ht
  ·exact List.mem_cons_of_mem _ ht
 obtain ⟨g1,g2,g3,g4⟩:=recv_ok (star:=(boxToks refs').head?) (t0:=2*d+1) hW h2 hnb h3 hfr hus
 refine hn v w' _ ?_ g1 ?_ ?_ ?_ ?_
 ·exact h1
 ·simp only[callEff]
  rw[hmap];exact g2
 ·intro n b hm
  simp only[callEff] at hm
  obtain ⟨j,b',h5,h6,rfl⟩:=hzip _ n b hm
  rcases h4 j b' h6 with ⟨g,vs,T,u,h7,h8,h9,h10,h11⟩|⟨g,ks,es,clock,h7,h8,h9,h10⟩|h7
  ·exact .inl ⟨g,vs,T,u,(g3 j n h5 g h7).1,h8,h9,h10,recvSV_rep g3 h11⟩
  ·exact .inr (.inl ⟨g,ks,es,clock,(g3 j n h5 g h7).1,h8,by rw[h9];rfl,h10⟩)
  ·exact .inr (.inr (h7.keep (Imm.le_refl _) (fun b hb=>⟨(g3 j n h5 b hb).1,rfl⟩) (fun hb=>by
    cases hc:G'.blk (.ref j) with
    |none=>exact absurd hc hb
    |some b=>exact (g3 j n h5 b hc).2.symm) fun k es e=>by show recvSV _ _ _ b'.c=_;rw[e];rfl))
 ·intro t ht
  simp only[Gh.recv] at ht
  split at ht
  ·rename_i h0;right;simp[tokOf,hd,h0.1]
  ·split at ht
   ·exact absurd rfl ht
   ·exact .inl ht
 ·intro n hn';exact .inl hn'
def nilX:SV→SV
 | .one .nilS=>.one (.pv .nilsl)
 |x=>x
theorem RepSVs.nilX {G:Gh}{used:List Nat}:∀{xs:List SV}{vs:List Value},RepSVs G used xs vs→RepSVs G used (xs.map Go.Abs.nilX) vs
 | [],vs,h=>by simpa [RepSVs] using h
 |x::xs,vs,h=>by
  simp only[RepSVs,List.map_cons] at h ⊢
  obtain ⟨v,rest,rfl,h2,h3⟩:=h
  refine ⟨v,rest,rfl,?_,RepSVs.nilX h3⟩
  unfold Go.Abs.nilX
  split
  ·simp only[RepSV,RepSC,Rep] at h2 ⊢;exact h2
  ·exact h2
def callEffX (d:Nat) (k:Sz) (es:List PV):Eff:=(.one (.ex (2*d+1) k es),[],[2*d])
theorem callX_does {P:Program}{o:Oper}{act:Act}{w:World}{G:Gh}{used:List Nat}{ρ:Operand→SV}{fo:Operand}{args:Array Operand}{tys:Array TypeId}{f:FuncId}{caps:List SV}
  {xs:List SV}{k:Sz}{es:List PV}(hW:WInv G w) (ho:o.op=.call {callee:=.value fo,args,argTypes:=tys}) (hc:calleeOf (ρ fo)=some (f,caps))
  (hxs:sendArgs [] ((args.toList.map ρ).map nilX++caps)=some xs) (hS:SpecX P f xs k es)
  (hρ:∀x,RepSV G used (ρ x) (act.eval x)) {d:Nat}(hd:o.dst=some d) (hfr:G.tok (2*d+1)=none) :
  Does P o act w G used (callEffX d k es):=by
 intro next Q hn
 obtain ⟨hbod,hsz,hS⟩:=hS
 have hcv:∃cv:Array Value,act.eval fo=.func (.func f) #[] cv∧RepSVs G used caps cv.toList:=by
  have hf:=hρ fo
  unfold calleeOf at hc
  split at hc
  ·rename_i f' ps heq
   cases hc
   rw[heq] at hf
   simp only[RepSV,RepSC] at hf
   rw[Rep] at hf
   obtain ⟨cv,h1,h2⟩:=hf
   exact ⟨cv,h1,RepSVs_pvs h2⟩
  ·rename_i f' cs heq
   cases hc
   rw[heq] at hf
   simp only[RepSV,RepSC] at hf
   obtain ⟨cv,h1,h2⟩:=hf
   exact ⟨cv,h1,RepSVs_caps h2⟩
  ·cases hc
 obtain ⟨cv,hfv,hcr⟩:=hcv
 have hrun:(execOp act.eval o).run P w=.ok (.enter f (args.map act.eval++cv)) w:=by
  unfold bodied at hbod
  cases hfn:P.funcs[f]? with
  |none=>simp[hfn] at hbod
  |some fn=>
   simp only[hfn,Bool.and_eq_true,Bool.not_eq_true'] at hbod
   have h1:fn.body≠none:=by intro hb;rw[hb] at hbod;simp at hbod
   have h2:fn.name≠ "runtime.NumGoroutine":=beq_eq_false_iff_ne.1 hbod.2
   simp[execOp,ho,resolve,hfv,Deferred.ofValue,invoke,callFunc,hfn,h1,h2]
 unfold Oper.wp
 rw[hrun,Oper.upon_enter]
 have hWs:=send_inv (names:=[]) (toks:=[]) hW List.nodup_nil
 have hargs:RepSVs (G.send [] []) [] xs (args.map act.eval++cv).toList:=by
  refine sendArgs_rep (used:=used) ?_ hxs
  rw[Array.toList_append,Array.toList_map]
  exact (RepSVs_map hρ _).nilX.append hcr
 have hev:∀t,(G.send [] []).tok t=none:=by intro t;simp[Gh.send]
 have hsn:∀n,(G.send [] []).blk n=none:=by intro n;cases n<;>simp[Gh.send]
 refine (hS _ w _ hWs hev hsn hargs).mono ?_
 rintro e w' ⟨v,G',t,tk,rfl,h1,h1',h2,h3⟩
 have h3':Ext (G.send [] []) G' w w' (fun n=>isRef n ([]:List Nm).length) (fun _=>True):=
  ⟨h3.I,h3.INew,fun n _=>h3.blk n (fun h=>h),h3.mono,h3.blkNew,h3.tok,h3.tokNew,fun b hb _ h5=>h3.heap b hb (fun _ h=>h.elim) h5,h3.size,h3.os,h3.tape,h3.output,h3.cap⟩
 obtain ⟨g1,g2,_,_⟩:=recv_ok (star:=some t) (t0:=2*d+1) (us:=[2*d]) hW h2 (by simp) h3' hfr (by simp)
 refine hn v w' _ ?_ g1 ?_ ?_ ?_ ?_
 ·obtain ⟨q1,q2,g,cap,vs,q3,q4,q5,q6,q7⟩:=h1'
  refine ⟨⟨_,_,q4⟩,hsz,fun _=>⟨tk,by simp[Gh.recv,h1],q1,q2,g,cap,vs,q3,q4,q5,q6,q7⟩⟩
 ·exact g2.weaken (fun n hn=>by simp at hn) (fun _ h=>h)
 ·intro n b hm;simp[callEffX] at hm
 ·intro t' ht
  simp only[Gh.recv] at ht
  split at ht
  ·rename_i h0;right;simp[tokOf,hd,h0.1]
  ·split at ht
   ·exact absurd rfl ht
   ·exact .inl ht
 ·intro n hn';exact .inl hn'
def TurnP (P:Program) (f:FuncId) (k:Sz) (es:List PV) (r:PV):Prop:=
 bodied P f=true∧∀(G:Gh) (w:World) (v:Value) (t:Nat) (tk:Tk),WInv G w→G.tok t=some tk→ExAt G.I tk k es v →
  Calls P f #[v] w fun e w'=>∃rv G',e=.returned rv∧WInv G' w'∧Ext G G' w w' (fun _=>False) (·=t)∧Rep G'.I r rv∧(∀t',G'.tok t'≠none→G.tok t'≠none)∧G'.blk=G.blk
theorem callT_does {P:Program}{o:Oper}{act:Act}{w:World}{G:Gh}{used:List Nat}{ρ:Operand→SV}{f:FuncId}{x:Operand}{tys:Array TypeId}{t:Nat}{k:Sz}{es:List PV}{r:PV}
  (hW:WInv G w) (ho:o.op=.call {callee:=.value (.func f),args:=#[x],argTypes:=tys}) (hx:ρ x=.one (.ex t k es)) (ht:t∉used) (hS:TurnP P f k es r) (hρ:∀x,RepSV G used (ρ x) (act.eval x)) :
  Does P o act w G used (.one (.pv r),[],[t]):=by
 intro next Q hn
 obtain ⟨hbod,hS⟩:=hS
 have hr:=hρ x
 rw[hx] at hr
 obtain ⟨_,_,hr⟩:=hr
 obtain ⟨tk,h1,h2⟩:=hr ht
 have hrun:(execOp act.eval o).run P w=.ok (.enter f #[act.eval x]) w:=by
  unfold bodied at hbod
  cases hfn:P.funcs[f]? with
  |none=>simp[hfn] at hbod
  |some fn=>
   simp only[hfn,Bool.and_eq_true,Bool.not_eq_true'] at hbod
   have h1:fn.body≠none:=by intro hb;rw[hb] at hbod;simp at hbod
   have h2:fn.name≠ "runtime.NumGoroutine":=beq_eq_false_iff_ne.1 hbod.2
   simp[execOp,ho,resolve,Act.eval,Deferred.ofValue,invoke,callFunc,hfn,h1,h2]
 unfold Oper.wp
 rw[hrun,Oper.upon_enter]
 refine (hS G w _ t tk hW h1 h2).mono ?_
 rintro e w' ⟨rv,G',rfl,g1,g2,g3,g4,g5⟩
 refine hn rv w' G' g3 g1 (g2.weaken (fun _ h=>h.elim) (fun u h=>by simp[show u=t from h])) (fun n b hm=>by simp at hm) (fun t' h=>.inl (g4 t' h)) (fun n h=>.inl (by rw[←g5];exact h))
end Go.Abs