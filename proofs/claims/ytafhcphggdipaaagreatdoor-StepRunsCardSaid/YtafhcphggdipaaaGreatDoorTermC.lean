/- Terms. -/
import Derived.Test.YtafhcphggdipaaaGreatDoorTermB
import Derived.Maps.RangeRun
import Derived.WalkKit
import Derived.Maps.AppendAt
import Derived.BigCall
import Derived.Test.YtafhcphggdipaaaGreatDoorTermA
import Derived.Test.YtafhcphggdipaaaGreatDoorKonG
import Derived.Test.YtafhcphggdipaaaGreatDoorRows
set_option linter.unusedSimpArgs false
set_option linter.unusedVariables false
namespace Go.Abs.Kon
open Go Go.Proofs Go.Abs Go.RowKit
open Go.ChangeMaps (setBlock)
set_option maxRecDepth 100000
set_option maxHeartbeats 4000000
theorem Spec.at_world {f:FuncId}{args:List SV}{r:PV}(h:Spec Tryz.prog f args [] r []) {G:Gh}{w:World}{vs:Array Value}(hW:WInv G w) (hr:RepSVs ⟨G.I,fun _=>none,fun _=>none,fun _=>0⟩ [] args vs.toList) :
  Calls Tryz.prog f vs w fun e w'=>∃v I',e=.returned v∧Rep I' r v∧Below w.heap.size w w':=by
 have hW0:WInv ⟨G.I,fun _=>none,fun _=>none,fun _=>0⟩ w:=
  ⟨hW.imm,fun _ _ _ h=>(by cases h),fun _ _ h=>(by cases h),fun _ _ h=>(by cases h),fun _ _ h=>(by cases h),fun _ _ _ _ _ h=>(by cases h),fun _ _ _ _ h=>(by cases h),fun g hg=>⟨(hW.glob g hg).1,fun _ h=>(by cases h),fun _ _ h=>(by cases h)⟩⟩
 refine (h.2.2 _ w vs hW0 (fun t ht=>absurd rfl ht) (fun n hn=>absurd rfl hn) (fun j bx hj=>by simp at hj) hr).mono ?_
 rintro e w' ⟨v,G',rfl,h1,h2,h3,_⟩
 refine ⟨v,G'.I,rfl,h1,h3.os,h3.tape,h3.output,h3.size,fun b hb=>h3.heap b hb (fun n hn=>?_) ?_⟩
 ·intro h4;cases h4
 ·rintro ⟨t,tk,_,h4,_⟩;cases h4
theorem pw_inj {α β:Type}(f:α→β):∀(l:List α),l.Pairwise (fun a b=>f a≠f b)→∀a∈l,∀b∈l,f a=f b→a=b
 | [],_,a,ha=>by cases ha
 |z::l,hp,a,ha=>by
  intro b hb hab
  obtain ⟨p1,p2⟩:=List.pairwise_cons.1 hp
  rcases List.mem_cons.1 ha with e1|ha
  ·rcases List.mem_cons.1 hb with e2|hb
   ·rw[e1,e2]
   ·rw[e1] at hab
    exact absurd hab (p1 b hb)
  ·rcases List.mem_cons.1 hb with e2|hb
   ·rw[e2] at hab
    exact absurd hab.symm (p1 a ha)
   ·exact pw_inj f l p2 a ha b hb hab
def Met (es:Array MapEntry) (seen:Array Nat) (ss:List Int):Prop:=
 ss.Nodup∧(∀x,x∈ss↔∃e∈es.toList,e.key=.int .i64 x∧seen.contains e.born=true)∧ss.length+(leftOf es seen).size≤es.size
theorem Met.start (es:Array MapEntry):Met es #[] []:=by
 refine ⟨List.nodup_nil,fun x=>by simp,?_⟩
 unfold leftOf
 simp only[List.length_nil,Nat.zero_add]
 exact Array.size_filter_le
theorem Met.step {es:Array MapEntry}{seen:Array Nat}{ss:List Int}{clock:Nat}{ks:List Int}(h:Met es seen ss) (hok:MapOk es clock ks) {e:MapEntry}(he:e∈(leftOf es seen).toList) :
  ∃x,e.key=.int .i64 x∧e.val=.bool true∧Met es (seen.push e.born) (ss++[x]):=by
 obtain ⟨h1,h2,h3⟩:=h
 obtain ⟨k1,k2,k3,k4⟩:=hok
 obtain ⟨g1,g2⟩:=mem_left he
 have hk:e.key∈es.toList.map (·.key):=List.mem_map.2 ⟨e,g1,rfl⟩
 rw[k1,List.mem_map] at hk
 obtain ⟨x,hx,hxe⟩:=hk
 have hkeys:(es.toList.map (·.key)).Nodup:=by
  rw[k1]
  exact k2.map _ fun a b hab hne=>hab (by cases hne;rfl)
 have huniq:∀a∈es.toList,a.key=e.key→a=e:=by
  intro a ha hae
  exact pw_inj (·.key) _ (List.pairwise_map (f:=fun x:MapEntry=>x.key) |>.1 hkeys) a ha e g1 hae
 refine ⟨x,hxe.symm,(k3 e g1).1,?_,fun y=>?_,?_⟩
 ·refine List.nodup_append.2 ⟨h1,by simp,fun a ha b hb=>?_⟩
  simp only[List.mem_singleton] at hb
  subst hb
  rintro rfl
  obtain ⟨e',m1,m2,m3⟩:=(h2 a).1 ha
  have:=huniq e' m1 (by rw[m2,hxe])
  rw[this,g2] at m3
  cases m3
 ·simp only[List.mem_append,List.mem_singleton,h2,contains_push,Bool.or_eq_true,beq_iff_eq]
  constructor
  ·rintro (⟨e',m1,m2,m3⟩|rfl)
   ·exact ⟨e',m1,m2,.inl m3⟩
   ·exact ⟨e,g1,hxe.symm,.inr rfl⟩
  ·rintro ⟨e',m1,m2,m3|m3⟩
   ·exact .inl ⟨e',m1,m2,m3⟩
   ·right
    have he':e'=e:=by
     exact pw_inj (·.born) _ (List.pairwise_map (f:=fun x:MapEntry=>x.born) |>.1 k4) e' m1 e g1 m3
    subst he'
    rw[←hxe] at m2
    cases m2
    rfl
 ·have:=left_shrinks es seen e he
  rw[List.length_append,List.length_singleton]
  omega
theorem Met.done {es:Array MapEntry}{seen:Array Nat}{ss:List Int}{clock:Nat}{ks:List Int}(h:Met es seen ss) (hok:MapOk es clock ks) (h0:(leftOf es seen).size=0):∀x,x∈ss↔x∈ks:=by
 obtain ⟨h1,h2,h3⟩:=h
 obtain ⟨k1,k2,k3,k4⟩:=hok
 intro x
 have hall:∀e∈es.toList,seen.contains e.born=true:=by
  intro e he
  cases hc:seen.contains e.born with
  |true=>rfl
  |false=>
   exfalso
   have:e∈leftOf es seen:=by
    unfold leftOf
    exact Array.mem_filter.2 ⟨Array.mem_toList_iff.1 he,by rw[hc];rfl⟩
   have h4:=Array.size_pos_of_mem this
   omega
 rw[h2]
 have hk:x∈ks↔Value.int .i64 x∈es.toList.map (·.key):=by
  rw[k1,List.mem_map]
  constructor
  ·intro h;exact ⟨x,h,rfl⟩
  ·rintro ⟨y,hy,e⟩;cases e;exact hy
 rw[hk,List.mem_map]
 constructor
 ·rintro ⟨e,m1,m2,_⟩;exact ⟨e,m1,m2⟩
 ·rintro ⟨e,m1,m2⟩;exact ⟨e,m1,m2,hall e m1⟩
theorem infoI:(Tryz.prog.info? 3).map (fun i=>(i.zero,i.size,i.bytes))=some (some (.int .i64 0),1,8):=by kernel_rfl
theorem sorted_calls (ks:List Int) (hks:ks.length≤1000000000) (bm:Nat) (es:Array MapEntry) (clock:Nat) (G:Gh) (w:World) (hW:WInv G w) (hb:w.heap[bm]? = some (.map es clock)) (hok:MapOk es clock ks) :
  Calls Tryz.prog 100 #[.map (some bm)] w fun e w'=>∃v,e=.returned v∧Below w.heap.size w w' ∧
   ((sortU ks=[]∧v=.slice none 0 0)∨∃g cap cur T,v=.slice (some ⟨g,0,none⟩) (sortU ks).length cap∧w.heap.size≤g∧w'.heap[g]? = some (.cells cur T (0,0))∧(sortU ks).length≤cap∧cap≤maxLen ∧
    ∀(j:Nat) (v:Value),((sortU ks).map (Value.int .i64))[j]? = some v→cur[j]? = some v):=by
 obtain ⟨i0,hi,hz0,hz1,hz2⟩:=info_parts infoI
 have hes:es.size=ks.length:=by
  have:=congrArg List.length hok.1
  simpa using this
 have hbl:bm<w.heap.size:=(Array.getElem?_eq_some_iff.1 hb).1
 have hrg:=run_range_map (P:=Tryz.prog) w 106 3 4 bm es clock Tryz.underlying106 hb
 go_enter Tryz.func100,Tryz.ntmps100
 go_wp2
 go_loopw [3] (fun v wr=>∃(seen:Array Nat) (c0:Nat) (ss:List Int),wr.heap[w.heap.size]? = some (.mapIter (some bm) clock seen c0)∧clock≤c0∧wr.heap[bm]? = some (.map es clock)∧Met es seen ss ∧
   wr.ownsRow (w.heap.size+1) 3 1 v ss.length (ss.map (Value.int .i64))∧Below w.heap.size w wr)
  (fun _ wr=>(leftOf es (wr.iterSeen w.heap.size)).size)
 case atStart=>
  refine ⟨#[],clock,[],heap_alloc_new _ _,Nat.le_refl _,?_,Met.start es,World.ownsRow_nil _ _ _ _,(Below.refl _ _).alloc (Nat.le_refl _) _⟩
  rw[heap_alloc_old w _ hbl];exact hb
 case round=>
  obtain ⟨seen,c0,ss,hit,hsc,hbm,hmet,hown,hbe⟩:=hrel
  rcases run_next_at (P:=Tryz.prog) wr 0 w.heap.size bm clock c0 seen es clock hit hbm (fun x hx=>(hok.2.2.1 x hx).2) hsc with ⟨h0,hrun⟩|⟨e,he,w1,hw1,hrun⟩
  ·have hnx:∀ty,(Instr.next (.pointer (some ⟨w.heap.size,0,none⟩)) false ty).run Tryz.prog wr=_:=fun _=>hrun
   have hall:=hmet.done hok h0
   have hsu:(ss.mergeSort fun x y=>decide (x≤y))=sortU ks:=by rw[mergeSort_sortU hmet.1];exact sortU_congr hall
   rcases hown.2 with ⟨rfl,hn0⟩|⟨g,cap,cur,rfl,hbase,hg,h1,h2,h3,h4⟩
   ·have hss:ss=[]:=List.eq_nil_of_length_eq_zero hn0
    subst hss
    have hc:=Spec.at_world Sort_0 (vs:=#[.slice none 0 0]) (below_ext hW hbe (fun _=>False) (fun _=>False)).1 (by
     simp only[RepSVs,pp,RepSV,RepSC]
     refine ⟨_,_,rfl,?_,rfl⟩
     rw[Rep]
     exact ⟨none,0,0,.one,rfl,rfl,Nat.le_refl _,Nat.zero_le _,.inl rfl⟩)
    clear hrg hit hbm hown
    go_wp2_with (go_at_call 137;refine hc.mono ?_;rintro e w' ⟨v',I',rfl,hv',hbe'⟩)
    go_ret
    refine ⟨_,rfl,hbe.trans ⟨hbe'.os,hbe'.tape,hbe'.output,hbe'.size,fun k hk=>hbe'.block k (Nat.lt_of_lt_of_le hk hbe.size)⟩,.inl ⟨?_,rfl⟩⟩
    rw[←hsu];simp
   ·have hH:Go.Sort.Holds (Value.int .i64) wr g 0 ss.toArray:=holds_ints hg fun j v hj=>by
     have hj':j<ss.length:=by
      rcases Nat.lt_or_ge j ss.length with h1|h1
      ·exact h1
      ·rw[List.getElem?_eq_none (by simpa using h1)] at hj;cases hj
     rw[←h4,List.getElem?_take_of_lt (by omega),Array.getElem?_toList] at hj
     exact hj
    have hsl:ss.length≤1000000000:=by have:=hmet.2.2;omega
    have hc:=Any.slices_Sort_int Tryz.laysSort g 0 cap ss wr hH (Array.getElem?_eq_some_iff.1 hg).1 (by omega)
    replace hc:Calls Tryz.prog 137 _ _ _:=hc
    have hlen:(sortU ks).length=ss.length:=by rw[←hsu];simp
    clear hrg hit hbm
    go_wp2_with (go_at_call 137;refine hc.mono ?_;rintro e w' ⟨rfl,n,os,rfl⟩)
    go_ret
    have hR:=row_sorted (n:=n) (os:=os) (sortU ks).toArray hg
    refine ⟨_,rfl,hbe.trans ⟨hR.os,hR.tape,hR.output,hR.size,fun k hk=>hR.old k (Nat.lt_of_lt_of_le hk hbe.size) (by omega)⟩,.inr ⟨g,cap,_,_,by rw[hlen];rfl,by omega,hR.row,by omega,h2,?_⟩⟩
    exact put_cells (by omega)
  ·obtain ⟨x,hkey,hval,hmet'⟩:=hmet.step hok he
   have hm1:=mem_left he
   have HI:Aside (wr.heap[w.heap.size]? = some (.mapIter (some bm) clock seen c0)):=hit
   have hr1:w1.heap[w.heap.size]? = some (.mapIter (some bm) clock seen c0):=by rcases hw1 with rfl|rfl<;>exact hit
   have hset:=Go.MapKept.heap_set (o':=Obj.mapIter (some bm) clock (seen.push e.born) clock) hr1
   obtain ⟨w2,hw2⟩:∃w2,w2=setBlock w1 w.heap.size (.mapIter (some bm) clock (seen.push e.born) clock):=⟨_,rfl⟩
   have hsz1:w1.heap.size=wr.heap.size:=by rcases hw1 with rfl|rfl<;>rfl
   have hheap1:w1.heap=wr.heap:=by rcases hw1 with rfl|rfl<;>rfl
   have hsz2:w2.heap.size=wr.heap.size:=by rw[hw2,←hsz1];simp[setBlock]
   have hold2:∀i,i≠w.heap.size→w2.heap[i]? = wr.heap[i]? := fun i hi=>by rw[hw2,←hheap1];exact hset.2 i hi
   have hit2:w2.heap[w.heap.size]? = some (.mapIter (some bm) clock (seen.push e.born) clock):=by rw[hw2];exact hset.1
   have hbm2:w2.heap[bm]? = some (.map es clock):=by rw[hold2 bm (by omega)];exact hbm
   have hg2:wr.grownBy w2 (some w.heap.size):=by
    refine ⟨?_,?_,?_,by omega,fun k hk hne=>hold2 k (fun e=>hne (by rw[e]))⟩<;>rw[hw2]<;>rcases hw1 with rfl|rfl<;>rfl
   have hown2:=hown.kept hg2 (.inr (fun e=>by have:=(hown.lt _ e).1;omega))
   have hen:=run_entry_at (P:=Tryz.prog) w2 w.heap.size bm clock seen es clock e hit2 hbm2 hm1.1 hok.2.2.2
   rw[←hw2] at hrun
   rw[hkey,hval] at hrun hen
   have hnx:∀ty,(Instr.next (.pointer (some ⟨w.heap.size,0,none⟩)) false ty).run Tryz.prog wr=_:=fun _=>hrun
   have hsl:ss.length+1≤1000000000:=by have:=hmet'.2.2;rw[List.length_append,List.length_singleton] at this;omega
   have hbase2:w.heap.size+1≤w2.heap.size:=by have:=(Array.getElem?_eq_some_iff.1 hit2).1;omega
   have HZ:Aside (w2.heap.size=wr.heap.size):=hsz2
   clear hrg hit hbm hw2 hset hold2 hsz1 hheap1 hsz2
   go_wp2_with (first
    | (at_builtin;refine wpList_append_own _ rfl _ _ 34 rfl (w.heap.size+1) 3 i0 (.int .i64 0) 1 8 Tryz.underlying34 hi hz0 hz1 hz2 rfl (by decide) _ _ _ rfl (hown2.alloc _) ⟨w2.heap.size,0,none⟩ 1 1 [.int .i64 x] rfl rfl (cell_one_new _ _ _) (fun x hx=>by simp at hx;subst hx;rfl) (by unfold maxLen;omega) (by omega) (by simp;omega) ?_;intro v' w3 hown' hgrow3 hnil3))
   have hsz2:=HZ.out
   have hk3:∀i,i≤w.heap.size→w3.heap[i]? = w2.heap[i]? := fun i hi=>by
    rw[hgrow3.block i (by simp;omega) (fun e=>by have:=(hown2.lt _ e.symm).1;omega),heap_alloc_old w2 _ (by omega)]
   have hit3:w3.heap[w.heap.size]? = some (.mapIter (some bm) clock (seen.push e.born) clock):=by rw[hk3 _ (Nat.le_refl _)];exact hit2
   have hbm3:w3.heap[bm]? = some (.map es clock):=by rw[hk3 _ (by omega)];exact hbm2
   have hlt:=left_shrinks es seen e he
   have hbe3:Below w.heap.size w w3:=((hbe.grown hg2 hbe.size (fun j hj=>by cases hj;exact Nat.le_refl _)).alloc (by have:=hbe.size;omega) _).grown hgrow3 (by simp;have:=hbe.size;omega) (fun j hj=>by have:=(hown2.lt j hj).1;omega)
   go_roundw
   case rel=>
    refine ⟨seen.push e.born,clock,ss++[x],hit3,Nat.le_refl _,hbm3,hmet',?_,hbe3⟩
    rw[List.length_append,List.map_append]
    exact hown'
   case measure=>
    have m1:w3.iterSeen w.heap.size=seen.push e.born:=by simp[World.iterSeen,hit3]
    have m2:wr.iterSeen w.heap.size=seen:=by simp[World.iterSeen,HI.out]
    rw[m1,m2]
    exact hlt
theorem sorted_spec (ks:List Int) (hks:ks.length≤1000000000):Spec Tryz.prog 100 [.one (.mp (.ref 0))] [⟨.one,.one (.mpc (.set ks))⟩] (.slice (ints (sortU ks))) [⟨.one,.one (.mpc (.set ks))⟩]:=by
 refine ⟨by kernel_rfl,rfl,fun G w vs hW hev hbl hbx hr=>?_⟩
 obtain ⟨b,es,clock,h1,h2,h3⟩:=(hbx 0 _ rfl).map
 simp only[RepSVs,RepSV,RepSC] at hr
 obtain ⟨v,rest,g1,⟨b',g2,rfl⟩,rfl⟩:=hr
 have hbb:b'=b:=by rw[h1] at g2;cases g2;rfl
 subst hbb
 obtain rfl:vs=#[.map (some b')]:=Array.toList_inj.1 g1
 refine (sorted_calls ks hks b' es clock G w hW h2 h3).mono ?_
 rintro e w' ⟨v,rfl,hB,hv⟩
 obtain ⟨hW1,hE⟩:=below_ext hW hB (fun n=>isRef n 1) (fun _=>True)
 have hbl':b'<w.heap.size:=hW.lt _ _ h1
 rcases hv with ⟨e0,rfl⟩|⟨g,cap,cur,T,rfl,hg,hrow,hl1,hl2,hc⟩
 ·refine ⟨_,G,rfl,?_,hW1,hE,fun j bx hj=>?_⟩
  ·rw[e0,ints,List.map_nil,Rep]
   exact ⟨none,0,0,.one,rfl,rfl,Nat.le_refl _,Nat.zero_le _,.inl rfl⟩
  ·cases j with
   |zero=>simp at hj;subst hj;exact .inr (.inl ⟨b',.set ks,es,clock,h1,by rw[hB.block b' hbl'];exact h2,rfl,h3⟩)
   |succ j=>simp at hj
 ·let G':Gh:=⟨fun b o=>if b=g then ((sortU ks).map (Value.int .i64))[o]? else G.I b o,G.blk,G.tok,G.cap⟩
  have hI:G.I.le G'.I:=by
   intro b o v hv
   show (if b=g then _ else _)=_
   rw[if_neg]
   ·exact hv
   ·intro e;have:=winv_lt hW hv;omega
  refine ⟨_,G',rfl,?_,⟨fun b o v hv=>?_,hW1.inj,hW1.lt,fun n b hn o=>?_,fun t tk ht=>?_,hW1.tokInj,hW1.tokBlk,hW1.glob⟩,⟨hI,fun b o v hv=>?_,hE.blk,hE.mono,hE.blkNew,hE.tok,hE.tokNew,hE.heap,hE.size,hE.os,hE.tape,hE.output,hE.cap⟩,fun j bx hj=>?_⟩
  ·have hR:RepE G'.I .one (ints (sortU ks)) g 0:=RepE_of_flat (ints_rep _) (fun x hx=>by obtain ⟨z,_,rfl⟩:=List.mem_map.1 hx;rfl) fun j x hj=>by
    rw[flat_ints] at hj
    show (if g=g then ((sortU ks).map (Value.int .i64))[0+j]? else _)=_
    rw[if_pos rfl,Nat.zero_add]
    exact hj
   have:=Rep_slice_mk (cap:=cap) hR (by rw[ints,List.length_map];exact hl1) hl2
   rw[ints,List.length_map] at this
   exact this
  ·have hv':(if b=g then ((sortU ks).map (Value.int .i64))[o]? else G.I b o)=some v:=hv
   split at hv'
   ·rename_i e;subst e;rw[cell_row hrow];exact hc o v hv'
   ·exact hW1.imm b o v hv'
  ·show (if b=g then _ else _)=_
   rw[if_neg]
   ·exact hW1.blkImm n b hn o
   ·intro e;have:=hW.lt n b hn;omega
  ·refine (hW1.tokOk t tk ht).keep fun g' hg'=>⟨rfl,fun o v hv=>?_⟩
   have hv':(if g'=g then ((sortU ks).map (Value.int .i64))[o]? else G.I g' o)=some v:=hv
   rw[if_neg] at hv'
   ·exact hv'
   ·intro e;have:=tok_lt hW ht hg';omega
  ·have hv':(if b=g then ((sortU ks).map (Value.int .i64))[o]? else G.I b o)=some v:=hv
   split at hv'
   ·rename_i e;exact .inr (.inl (by omega))
   ·exact .inl hv'
  ·cases j with
   |zero=>simp at hj;subst hj;exact .inr (.inl ⟨b',.set ks,es,clock,h1,by rw[hB.block b' hbl'];exact h2,rfl,h3⟩)
   |succ j=>simp at hj
end Go.Abs.Kon
namespace Go.Abs.Kon
open Go Go.Proofs Go.Abs
set_option maxRecDepth 100000
set_option maxHeartbeats 4000000
theorem tparts_spec (op n:Int) (s:ByteArray) (con to:ConT) (k:List KindT) (names:List ByteArray) (l:List TermT) (h:names.length≤100000000):Spec Tryz.prog 172 [pp (encT (.mk op n s con to k names l))] [] (.int .i64 (partsT op n names.length)) []:=by
 have hA:=tarity_spec n
 have w1:IntKind.i64.wrap ((names.length:Int)+1)=names.length+1:=wrap_id (by omega) (by omega)
 refine wf (rv:=[.tmp 2]) ann172 40 Tryz.func172 fun hfit=>?_
 clear hfit h
 simp only[go_sem,encT_mk,List.length_map]
 generalize hres:partsT op n names.length=res
 rw[partsT] at hres
 by_cases c1:op=1∨op=2∨op=3∨op=19
 ·rw[if_pos c1] at hres
  subst hres
  rcases c1 with rfl|rfl|rfl|rfl<;>simp only[go_sem,Int.reduceBEq]
 ·rw[if_neg c1] at hres
  by_cases c2:op=4∨op=6∨op=7∨op=8∨op=11∨op=12∨op=14∨op=15∨op=16
  ·rw[if_pos c2] at hres
   subst hres
   rcases c2 with rfl|rfl|rfl|rfl|rfl|rfl|rfl|rfl|rfl<;>simp only[go_sem,Int.reduceBEq]
  ·rw[if_neg c2] at hres
   by_cases c3:op=5∨op=9∨op=17
   ·rw[if_pos c3] at hres
    subst hres
    rcases c3 with rfl|rfl|rfl<;>simp only[go_sem,Int.reduceBEq]
   ·rw[if_neg c3] at hres
    by_cases c4:op=10
    ·rw[if_pos c4] at hres
     subst hres c4
     simp only[go_sem,Int.reduceBEq,List.length_map]
    ·rw[if_neg c4] at hres
     by_cases c5:op=13
     ·rw[if_pos c5] at hres
      subst hres c5
      simp only[go_sem,Int.reduceBEq,List.length_map,w1]
     ·rw[if_neg c5] at hres
      by_cases c6:op=18
      ·rw[if_pos c6] at hres
       subst c6
       try rw[if_pos rfl] at hres
       subst hres
       simp only[go_sem,Int.reduceBEq]
       refine aCall_intro hA ?_
       simp only[go_sem,Int.reduceBEq]
      ·rw[if_neg c6] at hres
       subst hres
       have f:∀m:Int,op≠m→(op==m)=false:=fun m h=>by simp[h]
       simp only[go_sem,f 1 (by omega),f 2 (by omega),f 3 (by omega),f 19 (by omega),f 4 (by omega),f 6 (by omega),f 7 (by omega),f 8 (by omega),f 11 (by omega),f 12 (by omega),f 14 (by omega),f 15 (by omega),f 16 (by omega),f 5 (by omega),f 9 (by omega),f 17 (by omega),f 10 (by omega),f 13 (by omega),f 18 (by omega)]
theorem tempty_spec (c:ConT):Spec Tryz.prog 202 [pp (encC c)] [] (.bool (eqC c zeroC)) []:=by
 have hE:=Equal_spec c zeroC
 rw[show encC zeroC=.agg [.int .i64 0,.int .i64 0,.str ByteArray.empty,.slice [],.slice [],.slice []] from rfl] at hE
 generalize eqC c zeroC=b at hE
 refine wk (rv:=[.tmp 2]) ann202 6 Tryz.func202 ?_
 simp only[go_sem,encC_sz]
 refine aCall_intro hE ?_
 simp only[go_sem]
theorem tfits_spec (c:ConT) (b:Bool) (h1:sizeF c≤1000000000) (h2:okS c):Spec Tryz.prog 175 [pp (encC c),bb b] [] (.bool (fitsC c b)) []:=by
 have hV:=Valid_spec c h1 h2
 have hE:=tempty_spec c
 refine wk (rv:=[.tmp 4]) ann175 10 Tryz.func175 ?_
 cases b with
 |true=>
  simp only[go_sem,encC_sz]
  refine aCall_intro hV ?_
  simp only[go_sem,fitsC]
 |false=>
  simp only[go_sem,encC_sz]
  refine aCall_intro hE ?_
  simp only[go_sem,fitsC]
theorem tnumber_spec (op n:Int) (s:ByteArray) (con to:ConT) (k:List KindT) (names:List ByteArray) (l:List TermT):Spec Tryz.prog 171 [pp (encT (.mk op n s con to k names l))] [] (.bool (numT op n)) []:=by
 refine wk (rv:=[.tmp 2]) ann171 48 Tryz.func171 ?_
 simp only[go_sem,encT_mk]
 repeat' ((first|refine condK_intro (fun _=>?_) (fun _=>?_)|refine guardK_intro (fun _=>?_) (fun _=>?_))<;>simp only[go_sem,List.length_map])
 all_goals (simp only[numT];simp_all<;>omega)
theorem ttext_spec (op n:Int) (s:ByteArray) (con to:ConT) (k:List KindT) (names:List ByteArray) (l:List TermT):Spec Tryz.prog 173 [pp (encT (.mk op n s con to k names l))] [] (.bool (textT op s)) []:=by
 have hL:=IsLabel_spec s
 generalize hres:textT op s=res
 rw[textT,strEq] at hres
 generalize labelF s=lb at hL hres
 refine wk (rv:=[.tmp 2]) ann173 20 Tryz.func173 ?_
 simp only[go_sem,encT_mk]
 repeat' ((first|refine condK_intro (fun _=>?_) (fun _=>?_)|refine guardK_intro (fun _=>?_) (fun _=>?_)|refine aCall_intro hL ?_)<;>simp only[go_sem,List.length_map])
 all_goals (clear hL;subst hres;simp_all)
theorem tnames1_spec (s:ByteArray):Spec Tryz.prog 201 [pp (.str s)] [] (.bool (!labelF s)) []:=by
 refine wk (rv:=[.tmp 2]) ann201 6 Tryz.func201 ?_
 simp only[go_sem]
 refine aCall_intro (IsLabel_spec s) ?_
 simp only[go_sem]
theorem tnames_spec (op n:Int) (s:ByteArray) (con to:ConT) (k:List KindT) (names:List ByteArray) (l:List TermT):Spec Tryz.prog 174 [pp (encT (.mk op n s con to k names l))] [] (.bool (namesT op names)) []:=by
 have hA:=Ascending_spec names
 have hN:Spec Tryz.prog 45 [pp (.slice (names.map .str)),pp (.fn 201 [])] [] (.bool (names.any fun x=>!labelF x)) []:=
  ContainsFuncS PV.str names 201 [] _ (fun e _=>rfl) fun x _=>tnames1_spec x
 generalize hres:namesT op names=res
 rw[namesT] at hres
 generalize (names.any fun x=>!labelF x)=b1 at hN hres
 generalize ascF names=b2 at hA hres
 have e0:(names.length=0)↔((names.length:Int)=0):=by omega
 have e1:(names.length>1000)↔((names.length:Int)>1000):=by omega
 simp only[e0,e1] at hres
 generalize hnl:(names.length:Int)=nl at hres
 refine wf (rv:=[.tmp 2]) ann174 41 Tryz.func174 fun hfit=>?_
 clear hfit e0 e1
 simp only[go_sem,encT_mk,List.length_map,hnl]
 repeat' ((first|refine condK_intro (fun _=>?_) (fun _=>?_)|refine guardK_intro (fun _=>?_) (fun _=>?_)|refine aCall_intro hA ?_|refine aCall_intro hN ?_)<;>simp only[go_sem,List.length_map,hnl])
 all_goals (clear hA hN;subst hres;simp_all<;>(rw[Bool.eq_iff_iff];simp))
theorem tnode_spec (op n:Int) (s:ByteArray) (con to:ConT) (k:List KindT) (names:List ByteArray) (l:List TermT) (h:okT (.mk op n s con to k names l)):Spec Tryz.prog 135 [pp (encT (.mk op n s con to k names l))] [] (.bool (nodeT op n s con to k names l.length)) []:=by
 simp only[okT] at h
 obtain ⟨hs,⟨hc1,hc2⟩,⟨ht1,ht2⟩,hk,hns,hnl,hll,_⟩:=h
 have hN:=tnumber_spec op n s con to k names l
 have hP:=tparts_spec op n s con to k names l hnl
 have hT:=ttext_spec op n s con to k names l
 have hNm:=tnames_spec op n s con to k names l
 have hK:=kValid_spec (.mk k)
 have hH:=thasCon_spec op
 have hF1:=tfits_spec con (hasConF op) hc1 hc2
 have hF2:=tfits_spec to (op==8) ht1 ht2
 generalize hres:nodeT op n s con to k names l.length=res
 rw[nodeT,kValidF] at hres
 have e1:decide (1≤op)=!decide (op<1):=by rw[Bool.eq_iff_iff];simp only[Bool.not_eq_true',decide_eq_true_iff,decide_eq_false_iff_not];omega
 have e2:decide (op≤19)=!decide (op>19):=by rw[Bool.eq_iff_iff];simp only[Bool.not_eq_true',decide_eq_true_iff,decide_eq_false_iff_not];omega
 have e3:decide ((l.length:Int)=partsT op n names.length)=!((l.length:Int) != partsT op n names.length):=by rw[Bool.eq_iff_iff];simp
 have e4:decide (k.length=0)=((k.length:Int)==0):=by rw[Bool.eq_iff_iff];simp
 rw[e1,e2,e3,e4] at hres
 clear e1 e2 e3 e4 hs hc1 hc2 ht1 ht2 hns hnl hll
 simp only[encT_mk,encK_mk,encC_cells,ConT.cells] at hN hP hT hNm hK hF1 hF2
 generalize numT op n=b1 at hN hres
 generalize partsT op n names.length=p at hP hres
 generalize textT op s=b3 at hT hres
 generalize namesT op names=b4 at hNm hres
 generalize (sizeK (.mk k) 20000 1).isSome=b5 at hK hres
 generalize hasConF op=b6 at hH hF1 hres
 generalize fitsC con b6=b7 at hF1 hres
 generalize fitsC to (op==8)=b8 at hF2 hres
 refine wk (rv:=[.tmp 2]) ann135 67 Tryz.func135 ?_
 simp only[go_sem,encT_mk,List.length_map]
 repeat' ((first|refine condK_intro (fun _=>?_) (fun _=>?_)|refine guardK_intro (fun _=>?_) (fun _=>?_)|refine aCall_intro hN ?_|refine aCall_intro hP ?_|refine aCall_intro hT ?_|refine aCall_intro hNm ?_|refine aCall_intro hK ?_|refine aCall_intro hH ?_|refine aCall_intro hF1 ?_|refine aCall_intro hF2 ?_|refine ⟨by kernel_rfl,?_⟩|fail)<;>simp only[go_sem,List.length_map])
 all_goals (clear hN hP hT hNm hK hH hF1 hF2;subst hres;simp_all<;>(rw[show decide (op<1)=false from by simp;omega,show decide (19<op)=false from by simp;omega];simp))
theorem measure_spec (t:TermT):okT t→∀left depth:Int,-3000000000≤left→left≤1000000000→0≤depth→depth≤401→Spec Tryz.prog 95 [pp (encT t),ii left,ii depth] [] (.tuple [.int .i64 (measT t left depth).1,.bool (measT t left depth).2]) []:=by
 revert t
 refine TermT.ind1 fun op n s con to k names l ih=>?_
 intro hok left depth h1 h2 h3 h4
 have hN:=tnode_spec op n s con to k names l hok
 have hH:=thasCon_spec op
 simp only[okT] at hok
 obtain ⟨_,⟨hc1,_⟩,⟨ht1,_⟩,_,_,_,hll,hokl⟩:=hok
 have hS1:=Size_spec con hc1
 have hS2:=Size_spec to ht1
 have hout:∀h:left≤0∨depth>400∨nodeT op n s con to k names l.length=false,(0,false)=measT (.mk op n s con to k names l) left depth:=fun h=>by rw[measT,if_pos h]
 have hin:∀h:¬(left≤0∨depth>400∨nodeT op n s con to k names l.length=false),measTL l left (1+(if hasConF op then (sizeF con:Int) else 0)+(if op=8 then (sizeF to:Int) else 0)) depth=measT (.mk op n s con to k names l) left depth:=fun h=>by rw[measT,if_neg h]
 generalize measT (.mk op n s con to k names l) left depth=res at hout hin
 have e8:(op=8)↔(op==8)=true:=by simp
 simp only[e8] at hin
 generalize nodeT op n s con to k names l.length=nd at hN hout hin
 have w1:IntKind.i64.wrap (1+(sizeF con:Int))=1+(sizeF con:Int):=wrap_id (by omega) (by omega)
 have w2:IntKind.i64.wrap (1+(sizeF con:Int)+(sizeF to:Int))=1+(sizeF con:Int)+(sizeF to:Int):=wrap_id (by omega) (by omega)
 have w3:IntKind.i64.wrap (1+(sizeF to:Int))=1+(sizeF to:Int):=wrap_id (by omega) (by omega)
 simp only[encT_mk,encC_cells,ConT.cells] at hN hS1 hS2
 generalize hasConF op=q at hH hin
 obtain ⟨n0,hn0⟩:∃n0,n0=(1+(if q=true then (sizeF con:Int) else 0)+(if (op==8)=true then (sizeF to:Int) else 0)):=⟨_,rfl⟩
 rw[←hn0] at hin
 generalize sizeF con=sc at *
 generalize sizeF to=st at *
 refine wk (rv:=[.tmp 6,.tmp 7]) ann95 67 Tryz.func95 ?_
 simp only[go_sem,encT_mk,List.length_map]
 repeat' (first | (refine condK_intro (fun _=>?_) (fun _=>?_)<;>simp only[go_sem,List.length_map,w1,w2,w3]) | (refine guardK_intro (fun _=>?_) (fun _=>?_)<;>simp only[go_sem,List.length_map]) | (refine aCall_intro hN ?_;simp only[go_sem,List.length_map]) | (refine aCall_intro hH ?_;simp only[go_sem,List.length_map]) | (refine aCall_intro hS1 ?_;simp only[go_sem,List.length_map,w1,w2,w3]) | (refine aCall_intro hS2 ?_;simp only[go_sem,List.length_map,w1,w2,w3]))
 all_goals first
   | (have ho:left≤0∨depth>400∨nd=false:=by (simp_all<;>omega)
      rw[←hout ho]
      done)
   |skip
 all_goals
   have hc:=hin (by simp_all<;>omega)
   have hleft:1≤left:=by simp_all;omega
   have hdep:depth≤400:=by simp_all
   clear hout hin hN hH hS1 hS2 w1 w2 w3 e8
   first
     | (have e0:n0=1+(sc:Int)+(st:Int):=by rw[hn0];simp_all
        clear hn0;subst e0)
     | (have e0:n0=1+(sc:Int):=by rw[hn0];simp_all
        clear hn0;subst e0)
     | (have e0:n0=1+(st:Int):=by rw[hn0];simp_all
        clear hn0;subst e0)
     | (have e0:n0=1:=by rw[hn0];simp_all
        clear hn0;subst e0)
   refine aLoop_list (α:=TermT) (β:=List TermT×Int) (fun rest b=>⟨[(43,ii b.1.length),(8,ii b.2),(2,ii depth),(1,ii left),(41,pp (.slice (l.map encT))),(42,ii l.length)],[],[]⟩)
     (fun rest b=>l=b.1++rest∧1≤b.2∧(b.2≤left∨b.2≤2000000001)∧measTL rest left b.2 depth=res) ?_ ?_ l ([],_) _ ?_ ⟨rfl,?_,?_,hc⟩
   · rintro ⟨pre,m⟩ ⟨g1,g2,g3,g4⟩ K
     simp only[List.append_nil] at g1
     simp only[measTL] at g4
     simp only[go_sem,g1,lt_false (Int.le_refl _)]
     rw[←g4]
   · rintro x rest ⟨pre,m⟩ ⟨g1,g2,g3,g4⟩ K hK
     simp only at g1 g2 g3 g4
     have hx:(l.map encT)[pre.length]? = some (encT x):=by simp[g1]
     have hlt:(pre.length:Int)<l.length:=by rw[g1];simp;omega
     have hmem:x∈l:=by simp[g1]
     have v1:IntKind.i64.wrap (left - m)=left - m:=wrap_id (by omega) (by omega)
     have v2:IntKind.i64.wrap (depth+1)=depth+1:=wrap_id (by omega) (by omega)
     have hI:=ih x hmem (okTs_mem.1 hokl x hmem) (left - m) (depth+1) (by omega) (by omega) (by omega) (by omega)
     have hle:=measT_le x (left - m) (depth+1)
     rw[measTL] at g4
     generalize measT x (left - m) (depth+1)=y at hI hle g4
     have v4:IntKind.i64.wrap ((pre.length:Int)+1)=((pre++[x]).length:Int):=by rw[wrap_id (by omega) (by omega)];simp
     simp only[go_sem,decide_eq_true hlt,Int.toNat_natCast,Int.natCast_nonneg,hx,encT_sz,v1,v2]
     refine aCall_intro hI ?_
     simp only[go_sem]
     refine condK_intro (fun hb=>?_) (fun hb=>?_)
     · have hb':y.2=false:=by simpa using hb
       rw[if_pos hb'] at g4
       simp only[go_sem]
       rw[←g4]
     · have hb':y.2=true:=by simpa using hb
       have hle2:=hle.2 hb'
       have v3:IntKind.i64.wrap (m+y.1)=m+y.1:=wrap_id (by omega) (by omega)
       rw[if_neg (by rw[hb'];decide)] at g4
       simp only[go_sem,v3,v4]
       refine hK (pre++[x],m+y.1) _ ?_ ⟨by simp[g1],by simp only;omega,by simp only;omega,g4⟩
       simp only[go_sem]
   · simp only[go_sem,List.length_nil,Int.natCast_zero]
   · simp only;omega
   · simp only;omega
theorem tValid_spec (t:TermT) (h:okT t):Spec Tryz.prog 50 [pp (encT t)] [] (.bool (validT t)) []:=by
 have hM:=measure_spec t h 20000 1 (by decide) (by decide) (by decide) (by decide)
 rw[validT]
 generalize measT t 20000 1=r at hM
 refine wk (rv:=[.tmp 2]) ann50 11 Tryz.func50 ?_
 simp only[go_sem,encT_sz]
 refine aCall_intro hM ?_
 simp only[go_sem]
end Go.Abs.Kon
namespace Go.Abs.Kon
open Go Go.Proofs Go.Abs
set_option maxRecDepth 100000
set_option maxHeartbeats 4000000
abbrev uEnc (uc ut:Int):PV:=.agg [.int .i64 uc,.int .i64 ut]
theorem tinside_spec (op n:Int) (s:ByteArray) (con to:ConT) (k:List KindT) (names:List ByteArray) (l:List TermT) (uc ut:Int) (i:Nat) (h1:0≤uc) (h2:uc≤1000000000000) (h3:0≤ut) (h4:ut≤1000000000000) (h5:i≤1000000000) :
  Spec Tryz.prog 105 [pp (uEnc uc ut),pp (encT (.mk op n s con to k names l)),ii i] [] (uEnc (uc+insC op i) (ut+insT op i)) []:=by
 have w1:IntKind.i64.wrap (uc+1)=uc+1:=wrap_id (by omega) (by omega)
 have w2:IntKind.i64.wrap (ut+1)=ut+1:=wrap_id (by omega) (by omega)
 have w3:IntKind.i64.wrap (uc+i)=uc+i:=wrap_id (by omega) (by omega)
 have w4:IntKind.i64.wrap (ut+i)=ut+i:=wrap_id (by omega) (by omega)
 have w5:IntKind.i64.wrap (ut+(if (1:Int)<i then 1 else (i:Int)))=ut+(if i<1 then (i:Int) else 1):=by
  have:(if (1:Int)<i then 1 else (i:Int))=(if i<1 then (i:Int) else 1):=by split<;>split<;>omega
  rw[this]
  exact wrap_id (by split<;>omega) (by split<;>omega)
 by_cases c1:op=6
 ·subst c1
  have e1:insC 6 i=1:=by simp[insC]
  have e2:insT 6 i=0:=by simp[insT]
  rw[e1,e2]
  refine wk (rv:=[.cell 6 86]) ann105 51 Tryz.func105 ?_
  simp only[go_sem,Int.reduceBEq,encT_mk,w1,Int.add_zero]
 ·by_cases c2:op=4∨op=16
  ·have e1:insC op i=0:=by rw[insC,if_neg c1,if_neg (by omega)]
   have e2:insT op i=1:=by rw[insT,if_pos c2]
   rw[e1,e2]
   refine wk (rv:=[.cell 6 86]) ann105 51 Tryz.func105 ?_
   rcases c2 with rfl|rfl<;>simp only[go_sem,Int.reduceBEq,encT_mk,w2,Int.add_zero]
  ·by_cases c3:op=17∨op=13
   ·have e1:insC op i=0:=by rw[insC,if_neg c1,if_neg (by omega)]
    have e2:insT op i=(if i<1 then (i:Int) else 1):=by rw[insT,if_neg c2,if_pos c3]
    rw[e1,e2]
    refine wk (rv:=[.cell 6 86]) ann105 51 Tryz.func105 ?_
    rcases c3 with rfl|rfl<;>simp only[go_sem,Int.reduceBEq,encT_mk,w5,Int.add_zero]
   ·by_cases c4:op=9
    ·subst c4
     have e1:insC 9 i=i:=by simp[insC]
     have e2:insT 9 i=i:=by simp[insT]
     rw[e1,e2]
     refine wk (rv:=[.cell 6 86]) ann105 51 Tryz.func105 ?_
     simp only[go_sem,Int.reduceBEq,encT_mk,w3,w4]
    ·have e1:insC op i=0:=by rw[insC,if_neg c1,if_neg c4]
     have e2:insT op i=0:=by rw[insT,if_neg c2,if_neg c3,if_neg c4]
     rw[e1,e2]
     have f:∀m:Int,op≠m→(op==m)=false:=fun m h=>by simp[h]
     refine wk (rv:=[.cell 6 86]) ann105 51 Tryz.func105 ?_
     simp only[go_sem,encT_mk,f 6 c1,f 4 (by omega),f 16 (by omega),f 17 (by omega),f 9 c4,f 13 (by omega),Int.add_zero]
abbrev addAll (ks l:List Int):List Int:=l.foldl addK ks
theorem above_cons (x:Int) (r:List Int) (u:Int):above (x::r) u=(if x≥u then [x - u] else [])++above r u:=by
 rw[above,List.filterMap_cons]
 by_cases h:x≥u
 ·rw[if_pos h,if_pos h];rfl
 ·rw[if_neg h,if_neg h];rfl
theorem asc_len:∀(l:List Int) (a b:Int),l.Pairwise (· < ·)→(∀x∈l,a≤x∧x≤b)→(l.length:Int)≤max (b - a+1) 0
 | [],a,b,_,_=>by simp;omega
 |x::r,a,b,h,hx=>by
  have h0:=List.pairwise_cons.1 h
  have h1:=hx x (by simp)
  have:=asc_len r (x+1) b h0.2 fun y hy=>⟨by have:=h0.1 y hy;omega,(hx y (by simp[hy])).2⟩
  rw[List.length_cons]
  omega
theorem freeF_asc (c:ConT):(freeF c).Pairwise (· < ·):=by
 rw[freeF]
 split
 ·exact sortU_asc _
 ·exact List.Pairwise.nil
theorem freeF_n {c:ConT}{i:Int}(h:i∈freeF c):0≤i∧i≤20000:=by
 rw[freeF] at h
 split at h
 ·rename_i hv
  rw[sortU_mem] at h
  obtain ⟨x,b,h1,h2,h3,rfl⟩:=mem_freeL.1 h
  obtain ⟨_,_,g3,g4,_⟩:=leaves_mem c 0 x b h1
  have:=formed_n (g3 (validF_formed hv))
  omega
 ·cases h
abbrev mpB (n:Nat):Box:=⟨.one,.one (.mp (.ref n))⟩
abbrev mcB (ks:List Int):Box:=⟨.one,.one (.mpc (.set ks))⟩
theorem free1_spec (c:ConT) (uc ut:Int) (ka:List Int) (h1:wtF c≤900000000) (h2:okS c) (h3:0≤uc) (h4:uc≤1000000000) :
  Spec Tryz.prog 97 [pp (encC c),pp (uEnc uc ut),.one (.ptr (.ref 0) 0)] [mpB 1,mcB ka] (.tuple []) [mpB 1,mcB (addAll ka (above (freeF c) uc))]:=by
 have hF:=tFree_spec c h1 h2
 have hn:∀i∈freeF c,0≤i∧i≤20000:=fun i hi=>freeF_n hi
 have hlen:=asc_len (freeF c) 0 20000 (freeF_asc c) hn
 generalize hres:addAll ka (above (freeF c) uc)=res
 generalize freeF c=l at hF hn hres hlen
 refine wk (rv:=[]) ann97 30 Tryz.func97 ?_
 simp only[go_sem,encC_sz]
 refine aCall_intro hF ?_
 simp only[go_sem,List.length_map]
 refine aLoop_list (α:=Int) (β:=Nat×List Int) (fun rest b=>⟨[(16,ii b.1),(4,pp (.ep (uEnc uc ut) 0)),(2,.one (.ptr (.ref 0) 0)),(14,pp (.slice (ints l))),(15,ii l.length)],[(.ref 0,mpB 1),(.ref 1,mcB b.2)],[]⟩)
  (fun rest b=>∃pre,l=pre++rest∧b.1=pre.length∧addAll b.2 (above rest uc)=res) ?_ ?_ l (0,ka) _ ?_ ⟨[],rfl,rfl,hres⟩
 ·rintro ⟨m,cur⟩ ⟨pre,g1,g2,g3⟩ K
  simp only[List.append_nil] at g1 g2 g3
  subst g1
  simp only[above,List.filterMap_nil,List.foldl_nil] at g3
  subst g3
  simp only[go_sem,g2,lt_false (Int.le_refl _)]
 ·rintro x rest ⟨m,cur⟩ ⟨pre,g1,g2,g3⟩ K hK
  simp only at g2 g3
  have hx:(ints l)[m]? = some (.int .i64 x):=by simp[ints,g1,g2]
  have hlt:(m:Int)<l.length:=by rw[g1,g2];simp;omega
  have hxb:=hn x (by simp[g1])
  have hll:m<l.length:=by rw[g1,g2];simp
  have w1:IntKind.i64.wrap (x - uc)=x - uc:=wrap_id (by omega) (by omega)
  have w4:IntKind.i64.wrap ((m:Int)+1)=((m+1:Nat):Int):=by rw[wrap_id (by omega) (by omega)];simp
  rw[above_cons] at g3
  simp only[go_sem,decide_eq_true hlt,Int.toNat_natCast,Int.natCast_nonneg,hx]
  refine condK_intro (fun hb=>?_) (fun hb=>?_)
  ·rw[if_pos (of_decide_eq_true hb)] at g3
   simp only[go_sem,w1,w4]
   refine hK (m+1,addK cur (x - uc)) _ ?_ ⟨pre++[x],by simp[g1],by simp[g2],g3⟩
   simp only[go_sem]
  ·rw[if_neg (of_decide_eq_false hb)] at g3
   simp only[go_sem,w4]
   refine hK (m+1,cur) _ ?_ ⟨pre++[x],by simp[g1],by simp[g2],g3⟩
   simp only[go_sem]
 ·simp only[go_sem,Int.natCast_zero]
theorem free2_spec (n uc ut:Int) (kb:List Int) (h1:-1000000000000≤n) (h2:n≤1000000000000) (h3:0≤ut) (h4:ut≤1000000000000) :
  Spec Tryz.prog 99 [ii n,pp (uEnc uc ut),.one (.ptr (.ref 0) 0)] [mpB 1,mcB kb] (.tuple []) [mpB 1,mcB (addAll kb (above [n] ut))]:=by
 have w1:IntKind.i64.wrap (n - ut)=n - ut:=wrap_id (by omega) (by omega)
 rw[above_cons]
 refine wk (rv:=[]) ann99 14 Tryz.func99 ?_
 simp only[go_sem]
 refine condK_intro (fun hb=>?_) (fun hb=>?_)
 ·rw[if_pos (of_decide_eq_true hb)]
  simp only[go_sem,w1,above,List.filterMap_nil,List.append_nil,List.foldl_cons,List.foldl_nil]
 ·rw[if_neg (of_decide_eq_false hb)]
  simp only[go_sem,above,List.filterMap_nil,List.append_nil,List.foldl_nil]
mutual
def wtT:TermT→Nat
 | .mk _ _ _ _ _ _ _ l=>1+wtTL l
def wtTL:List TermT→Nat
 | []=>0
 |x::r=>wtT x+wtTL r
end
theorem okT_con {op n:Int}{s:ByteArray}{con to:ConT}{k:List KindT}{names:List ByteArray}{l:List TermT}(h:okT (.mk op n s con to k names l)):okS con∧okS to∧l.length≤1000000000∧okTs l:=by
 simp only[okT] at h
 exact ⟨h.2.1.2,h.2.2.1.2,h.2.2.2.2.2.2.1,h.2.2.2.2.2.2.2⟩
mutual
def wcT:TermT→Prop
 | .mk _ _ _ con to _ _ l=>wtF con≤900000000∧wtF to≤900000000∧wcTs l
def wcTs:List TermT→Prop
 | []=>True
 |x::r=>wcT x∧wcTs r
end
theorem wcTs_mem:∀{l:List TermT},wcTs l↔∀x∈l,wcT x
 | []=>by simp[wcTs]
 |x::r=>by simp[wcTs,wcTs_mem (l:=r)]
theorem addAll_append (a b c:List Int):addAll a (b++c)=addAll (addAll a b) c:=List.foldl_append
theorem walk_spec (t:TermT):∀(uc ut:Int) (ka kb:List Int),wfT t=true→okT t→wcT t→0≤uc→uc+depthT t≤1000000000→0≤ut→ut+depthT t≤1000000000 →
  Spec Tryz.prog 96 [pp (uEnc uc ut),pp (encT t),.one (.fn 97 [.ptr (.ref 0) 0]),.one (.fn 99 [.ptr (.ref 1) 0])] [mpB 2,mpB 3,mcB ka,mcB kb] (.tuple [])
   [mpB 2,mpB 3,mcB (addAll ka (consF t uc)),mcB (addAll kb (termsF t ut))]:=by
 revert t
 refine TermT.ind1 fun op n s con to k names l ih=>?_
 intro uc ut ka kb hwf hok hwc h1 h2 h3 h4
 rw[wfT,Bool.and_eq_true] at hwf
 obtain ⟨hnode,hwl⟩:=hwf
 obtain ⟨o1,o2,o3,o4⟩:=okT_con hok
 simp only[wcT] at hwc
 obtain ⟨c1,c2,c3⟩:=hwc
 rw[depthT] at h2 h4
 have hH:=thasCon_spec op
 have hF1:=fun ka=>free1_spec con uc ut ka c1 o1 h1 (by omega)
 have hF2:=fun ka=>free1_spec to uc ut ka c2 o2 h1 (by omega)
 have hV:op=1→∀kb,Spec Tryz.prog 99 [ii n,pp (uEnc uc ut),.one (.ptr (.ref 0) 0)] [mpB 1,mcB kb] (.tuple []) [mpB 1,mcB (addAll kb (above [n] ut))]:=fun e kb=>by
  obtain ⟨_,_,_,_,_,_,g1,g2⟩:=node_op1 hnode e
  exact free2_spec n uc ut kb (by omega) (by omega) h3 (by omega)
 have hIn:=fun i hi=>tinside_spec op n s con to k names l uc ut i h1 (by omega) h3 (by omega) hi
 have h9:op=9→l.length≤2:=fun e=>by subst e;have:=node_parts9 hnode;omega
 simp only[encC_cells,ConT.cells] at hF1 hF2
 simp only[encT_mk,encC_cells,ConT.cells] at hIn
 rw[consF,termsF,addAll_append,addAll_append,addAll_append]
 have e8:(op=8)↔(op==8)=true:=by simp
 have e1:(op=1)↔(op==1)=true:=by simp
 simp only[e8,e1]
 rw[e1] at hV
 generalize hq:hasConF op=q at hH
 generalize h8:(op==8)=q8
 generalize h11:(op==1)=q1 at hV
 generalize above (freeF con) uc=a1 at hF1
 generalize above (freeF to) uc=a2 at hF2
 generalize above [n] ut=a3 at hV
 have hcase:(q=true∧q8=true∧q1=false)∨(q=true∧q8=false∧q1=false)∨(q=false∧q8=false∧q1=true)∨(q=false∧q8=false∧q1=false):=by
  subst hq h8 h11
  by_cases e8:op=8
  ·subst e8;exact .inl ⟨by decide,by decide,by decide⟩
  ·by_cases e1:op=1
   ·subst e1;exact .inr (.inr (.inl ⟨by decide,by decide,by decide⟩))
   ·have f8:(op==8)=false:=by simp[e8]
    have f1:(op==1)=false:=by simp[e1]
    rw[f8,f1]
    cases hasConF op
    ·exact .inr (.inr (.inr ⟨rfl,rfl,rfl⟩))
    ·exact .inr (.inl ⟨rfl,rfl,rfl⟩)
 generalize hra:addAll (addAll (addAll ka (if q=true then a1 else [])) (if q8=true then a2 else [])) (consL op l 0 uc)=RA
 generalize hrb:addAll (addAll kb (if q1=true then a3 else [])) (termsL op l 0 ut)=RB
 refine wk (rv:=[]) ann96 51 Tryz.func96 ?_
 simp only[go_sem,encT_mk]
 refine aCall_intro hH ?_
 rcases hcase with ⟨rfl,rfl,rfl⟩|⟨rfl,rfl,rfl⟩|⟨rfl,rfl,rfl⟩|⟨rfl,rfl,rfl⟩
 all_goals
  simp only[Bool.false_eq_true,if_true,if_false,List.foldl_nil] at hra hrb
  simp only[go_sem,h8,h11]
  try (refine aCall_intro (hF1 _) ?_;simp only[go_sem,h8,h11])
  try (refine aCall_intro (hF2 _) ?_;simp only[go_sem,h8,h11])
  try (refine aCall_intro (hV rfl _) ?_;simp only[go_sem,h8,h11])
  simp only[List.length_map]
  clear hH hF1 hF2 hV h8 h11 hq hnode
  refine aLoop_list (α:=TermT) (β:=Nat×List Int×List Int) (fun rest b=>⟨[(37,ii b.1),(3,.one (.fn 99 [.ptr (.ref 1) 0])),(2,.one (.fn 97 [.ptr (.ref 0) 0])),(5,pp (.ep (encT (.mk op n s con to k names l)) 0)),(4,pp (.ep (uEnc uc ut) 0)),(35,pp (.slice (l.map encT))),(36,ii l.length)],
    [(.ref 0,mpB 2),(.ref 1,mpB 3),(.ref 2,mcB b.2.1),(.ref 3,mcB b.2.2)],[]⟩)
   (fun rest b=>∃pre,l=pre++rest∧b.1=pre.length∧addAll b.2.1 (consL op rest b.1 uc)=RA∧addAll b.2.2 (termsL op rest b.1 ut)=RB) ?_ ?_ l (0,_,_) _ ?_ ⟨[],rfl,rfl,hra,hrb⟩
  ·rintro ⟨m,ca,cb⟩ ⟨pre,g1,g2,g3,g4⟩ K
   simp only[List.append_nil] at g1 g2
   simp only[consL,termsL,List.foldl_nil] at g3 g4
   subst g1 g3 g4
   simp only[go_sem,g2,lt_false (Int.le_refl _)]
  ·rintro x rest ⟨m,ca,cb⟩ ⟨pre,g1,g2,g3,g4⟩ K hK
   simp only at g2 g3 g4
   have hx:(l.map encT)[m]? = some (encT x):=by simp[g1,g2]
   have hlt:(m:Int)<l.length:=by rw[g1,g2];simp;omega
   have hll:m<l.length:=by rw[g1,g2];simp
   have hm:x∈l:=by simp[g1]
   have hdx:=depthTL_mem hm
   have w4:IntKind.i64.wrap ((m:Int)+1)=((m+1:Nat):Int):=by rw[wrap_id (by omega) (by omega)];simp
   have hIn:=hIn m (by omega)
   have b1:0≤insC op m∧insC op m≤1:=by
    rw[insC]
    by_cases e9:op=9
    ·have:=h9 e9
     rw[if_neg (by omega),if_pos e9];omega
    ·rw[if_neg e9];split<;>omega
   have b2:0≤insT op m∧insT op m≤1:=by
    rw[insT]
    by_cases e9:op=9
    ·have:=h9 e9
     rw[if_neg (by omega),if_neg (by omega),if_pos e9];omega
    ·rw[if_neg e9];(repeat' split)<;>omega
   have hI:=ih x hm (uc+insC op m) (ut+insT op m) ca cb (wfL_mem.1 hwl x hm) (okTs_mem.1 o4 x hm) (wcTs_mem.1 c3 x hm) (by omega) (by omega) (by omega) (by omega)
   rw[consL,addAll_append] at g3
   rw[termsL,addAll_append] at g4
   have hK':=fun s' hs=>hK (m+1,addAll ca (consF x (uc+insC op m)),addAll cb (termsF x (ut+insT op m))) s' hs ⟨pre++[x],by simp[g1],by simp[g2],g3,g4⟩
   clear hK
   generalize addAll ca (consF x (uc+insC op m))=ca2 at hI hK'
   generalize addAll cb (termsF x (ut+insT op m))=cb2 at hI hK'
   generalize uc+insC op m=uc2 at hI hIn
   generalize ut+insT op m=ut2 at hI hIn
   simp only[go_sem,decide_eq_true hlt,Int.toNat_natCast,Int.natCast_nonneg,hx,encT_sz,encT_mk]
   refine aCall_intro hIn ?_
   simp only[go_sem,encT_sz]
   try (refine ⟨by kernel_rfl,?_⟩;try simp only[go_sem,encT_sz])
   refine aCall_intro hI ?_
   simp only[go_sem,w4]
   try (refine ⟨by kernel_rfl,?_⟩;try simp only[go_sem,w4])
   refine hK' _ ?_
   simp only[go_sem,encT_mk]
  ·simp only[go_sem,Int.natCast_zero,encT_mk]
/-! free, and Free -/
theorem addK_mem (ks:List Int) (i y:Int):y∈addK ks i↔y∈ks∨y=i:=by
 rw[addK]
 split
 ·rename_i h
  constructor
  ·exact .inl
  ·rintro (h'|rfl)
   ·exact h'
   ·exact h
 ·simp
theorem addAll_mem (l:List Int):∀(ks:List Int) (y:Int),y∈addAll ks l↔y∈ks∨y∈l:=by
 induction l with
 |nil=>intro ks y;simp
 |cons x r ih=>
  intro ks y
  rw[show addAll ks (x::r)=addAll (addK ks x) r from rfl,ih,addK_mem,List.mem_cons]
  constructor
  ·rintro ((h|h)|h)
   ·exact .inl h
   ·exact .inr (.inl h)
   ·exact .inr (.inr h)
  ·rintro (h|h|h)
   ·exact .inl (.inl h)
   ·exact .inl (.inr h)
   ·exact .inr h
theorem addAll_sort (l:List Int):sortU (addAll [] l)=sortU l:=sortU_congr fun x=>by rw[addAll_mem];simp
theorem addK_len (ks:List Int) (i:Int):(addK ks i).length≤ks.length+1:=by
 rw[addK];split<;>simp
theorem addAll_len (l:List Int):∀ks,(addAll ks l).length≤ks.length+l.length:=by
 induction l with
 |nil=>intro ks;simp
 |cons x r ih=>
  intro ks
  have h1:=ih (addK ks x)
  have h2:=addK_len ks x
  rw[show addAll ks (x::r)=addAll (addK ks x) r from rfl,List.length_cons]
  omega
theorem free_spec (t:TermT) (h1:wfT t=true) (h2:okT t) (h3:wcT t) (h4:depthT t≤1000000000) (h5:(consF t 0).length≤1000000000) (h6:(termsF t 0).length≤1000000000) :
  Spec Tryz.prog 51 [pp (encT t)] [] (.tuple [.slice (ints (sortU (consF t 0))),.slice (ints (sortU (termsF t 0)))]) []:=by
 have hWk:=walk_spec t 0 0 [] [] h1 h2 h3 (by decide) (by omega) (by decide) (by omega)
 have l1:=addAll_len (consF t 0) []
 have l2:=addAll_len (termsF t 0) []
 rw[←addAll_sort (consF t 0),←addAll_sort (termsF t 0)]
 simp only[List.length_nil,Nat.zero_add] at l1 l2
 generalize addAll [] (consF t 0)=ca at hWk l1 ⊢
 generalize addAll [] (termsF t 0)=cb at hWk l2 ⊢
 have hS1:=sorted_spec ca (by omega)
 have hS2:=sorted_spec cb (by omega)
 refine wk (rv:=[.tmp 2,.tmp 3]) ann51 17 Tryz.func51 ?_
 simp only[go_sem,encT_sz]
 try (refine ⟨by kernel_rfl,?_⟩;try simp only[go_sem,encT_sz])
 refine aCall_intro hWk ?_
 simp only[go_sem]
 refine aCall_intro hS1 ?_
 simp only[go_sem]
 try (refine ⟨by kernel_rfl,?_⟩;try simp only[go_sem])
 refine aCall_intro hS2 ?_
 simp only[go_sem]
 try (refine ⟨by kernel_rfl,?_⟩;try simp only[go_sem])
end Go.Abs.Kon
namespace Go.Abs.Kon
open Go Go.Proofs Go.Abs Go.ChangeShapes Go.WideShapes Go.ChangeAt Go.RowKit
open Go.Proofs.YtafhcphggdipaaaGreatDoor
set_option maxRecDepth 100000
set_option maxHeartbeats 4000000
instance:Inhabited TermT:=⟨zeroT⟩
/-! Bulk -/
theorem bulk_str {H:Type}(bytes:List UInt8):Rows.uptoBulk (DataW.lit (H:=H) (.string bytes))=bytes.length+1:=by
 simp[Rows.uptoBulk]
def sumB {α:Type}(mz:α→Nat):List α→Nat
 | []=>0
 |x::r=>mz x+sumB mz r
theorem sumB_bulk {α:Type}{H:Type}(mz:α→Nat):∀(elems:List (DataW H×List MemPlace)) (f:Nat→α),(∀i y,elems[i]? = some y→mz (f i)≤Rows.uptoBulk y.1)→sumB mz ((List.range elems.length).map f)≤Rows.uptoBulkAll (elems.map (·.1))
 | [],f,h=>by simp[sumB]
 |y::r,f,h=>by
  rw[List.length_cons,List.range_succ_eq_map,List.map_cons,List.map_map,List.map_cons,sumB]
  have h0:=h 0 y rfl
  have h1:=sumB_bulk mz r (f ∘ Nat.succ) fun i z hz=>h (i+1) z (by simpa using hz)
  simp only[Rows.uptoBulkAll]
  omega
mutual
def blC:ConT→Nat
 | .mk _ _ s k names l=>1+s.size+knL k+(sumB (fun x:ByteArray=>x.size+1) names)+blCs l
def blCs:List ConT→Nat
 | []=>0
 |x::r=>blC x+blCs r
end
mutual
def blT:TermT→Nat
 | .mk _ _ s con to k names l=>1+s.size+blC con+blC to+knL k+(sumB (fun x:ByteArray=>x.size+1) names)+blTs l
def blTs:List TermT→Nat
 | []=>0
 |x::r=>blT x+blTs r
end
theorem blCs_sum:∀l,sumB blC l=blCs l
 | []=>rfl
 |x::r=>by rw[sumB,blCs,blCs_sum r]
theorem blTs_sum:∀l,sumB blT l=blTs l
 | []=>rfl
 |x::r=>by rw[sumB,blTs,blTs_sum r]
theorem knL_sum:∀l,sumB knF l=knL l
 | []=>rfl
 |x::r=>by rw[sumB,knL,knL_sum r]
section
variable {H:Type}{enc:TypeId×Value→H}{W:World}{base base':Nat}{sp:Nat→Bool}{hd:Bool}
theorem open_elems_b {t e:TypeId}{k:Sz}(ht:Tryz.prog.underlying t=some (.slice e)) (hc:Tryz.prog.cellsOf e=k.size) (hpos:0<k.size) {α:Type} [Inhabited α] (enc':α→PV) (mz:α→Nat) {n:Nat}
  (down:∀m cs x,m<n→DataW.trod enc Tryz.prog W base sp hd m e cs=some x→∃(a:α) (u:Value),u.cells.toList=cs∧Rep (memI W) (enc' a) u∧k.okV u=true∧mz a≤Rows.uptoBulk x.1) {cs:List Value}{x:DataW H×List MemPlace}
  (h:DataW.trod enc Tryz.prog W base sp hd n t cs=some x):∃(l:List α) (v:Value),cs=[v]∧Rep (memI W) (.slice (l.map enc')) v∧v.oneCell'=true∧sumB mz l+1≤Rows.uptoBulk x.1:=by
 rcases DataW.trod_slice ht h with ⟨rfl,rfl⟩|⟨a,len,cap,elems,rest,m,rfl,rfl,rfl,_,hlc,hcm,hlen,hel,_,_⟩
 ·exact ⟨[],_,rfl,by rw[List.map_nil,Rep];exact ⟨none,0,0,.one,rfl,rfl,Nat.le_refl _,Nat.zero_le _,.inl rfl⟩,rfl,by simp[sumB,Rows.uptoBulk]⟩
 ·have hone:∀i,i<len→∃(z:α) (u:Value),Rep (memI W) (enc' z) u∧k.okV u=true∧a.spot=none∧At (memI W) a.block (a.off+i*k.size) u∧(∀y,elems[i]? = some y→mz z≤Rows.uptoBulk y.1):=by
   intro i hi
   have h1:=hel i hi
   rw[List.getElem?_eq_getElem (by rw[hlen];exact hi)] at h1
   obtain ⟨cs',h2,h3⟩:=Option.bind_eq_some_iff.1 h1
   obtain ⟨z,u,h4,h5,h6,hmz⟩:=down m cs' _ (Nat.lt_succ_self _) h3
   obtain ⟨_,h7,h8⟩:=World.cells?_some h2
   have hu:=Sz.size_of_ok h6
   have hspot:∀i',i'<len→a.spot=none∨0<i'*k.size:=fun i' _=>by
    by_cases h0:i'=0
    ·left
     subst h0
     have h1:=hel 0 (by omega)
     rw[List.getElem?_eq_getElem (by omega)] at h1
     obtain ⟨cs0,g2,_⟩:=Option.bind_eq_some_iff.1 h1
     obtain ⟨_,g7,g8⟩:=World.cells?_some g2
     have g9:=g8 0 (by rw[hc];exact hpos)
     rw[hc] at g7
     rw[List.getElem?_eq_getElem (by omega)] at g9
     rw[Nat.zero_mul] at g9
     have ea:(a.add 0).add 0=a:=rfl
     rw[ea] at g9
     unfold World.cell? at g9
     cases hs:a.spot with
     |none=>rfl
     |some s=>
      rw[hs] at g9
      split at g9<;>simp at g9
    ·exact .inr (Nat.mul_pos (by omega) hpos)
   have hs0:a.spot=none:=by
    rcases hspot 0 (by omega) with h|h
    ·exact h
    ·simp at h
   refine ⟨z,u,h5,h6,hs0,fun j v hj=>?_,fun y hy=>?_⟩
   ·obtain ⟨b,o,s⟩:=a
    simp only at hs0
    subst hs0
    have hjl:j<k.size:=by
     have:=(Array.getElem?_eq_some_iff.1 hj).1
     omega
    have:=h8 j (by rw[hc];exact hjl)
    rw[add_none,add_none,hc,←h4,Array.getElem?_toList,hj] at this
    exact this
   ·rw[List.getElem?_eq_getElem (by rw[hlen];exact hi)] at hy
    cases hy
    exact hmz
  obtain ⟨f,hf⟩:∃f:Nat→α,∀i,i<len→∃u:Value,Rep (memI W) (enc' (f i)) u∧k.okV u=true∧a.spot=none∧At (memI W) a.block (a.off+i*k.size) u∧(∀y,elems[i]? = some y→mz (f i)≤Rows.uptoBulk y.1):=by
   refine ⟨fun i=>if h:i<len then (hone i h).choose else default,fun i hi=>?_⟩
   simp only[hi,dif_pos]
   exact (hone i hi).choose_spec
  refine ⟨(List.range len).map f,_,rfl,?_,rfl,?_⟩
  ·rw[Rep]
   refine ⟨some a,len,cap,k,rfl,by simp,hlc,hcm,?_⟩
   by_cases h0:len=0
   ·left;subst h0;rfl
   ·right
    have hs0:=(hf 0 (by omega)).choose_spec.2.2.1
    refine ⟨a.block,a.off,by rw[←hs0],repE_of _ _ _ fun i e' hi=>?_⟩
    simp only[List.map_map,List.getElem?_map,Option.map_eq_some_iff] at hi
    obtain ⟨j,hj,rfl⟩:=hi
    obtain ⟨hlt,hj'⟩:=List.getElem?_eq_some_iff.1 hj
    have hji:i<len:=by simpa using hlt
    simp at hj'
    subst hj'
    obtain ⟨u,h1,h2,_,h4,_⟩:=hf i hji
    exact ⟨u,h1,h2,h4⟩
  ·have:=sumB_bulk mz elems f fun i y hy=>by
    have hi:i<len:=by rw[←hlen];exact (List.getElem?_eq_some_iff.1 hy).1
    obtain ⟨_,_,_,_,_,h5⟩:=hf i hi
    exact h5 y hy
   rw[hlen] at this
   simp only[Rows.uptoBulk]
   omega
theorem open_str_b {n:Nat}{cs:List Value}{x:DataW H×List MemPlace}(h:DataW.trod enc Tryz.prog W base sp hd n 9 cs=some x):∃(s:ByteArray) (u:Value),u.cells.toList=cs∧Rep (memI W) (.str s) u∧Sz.one.okV u=true∧s.size+1≤Rows.uptoBulk x.1:=by
 obtain ⟨s,rfl,rfl,_⟩:=DataW.trod_string Tryz.underlying9 h
 refine ⟨s,.string s,by simp[Value.cells],by simp[Rep],rfl,?_⟩
 simp only[bulk_str]
 rw[Array.length_toList]
 exact Nat.le_refl _
theorem open_kind_b:∀(n:Nat) (cs:List Value) (x:DataW H×List MemPlace),DataW.trod enc Tryz.prog W base sp hd n 24 cs=some x →
  ∃(l:List KindT) (v:Value),cs=[v]∧Rep (memI W) (.slice (l.map encK)) v∧v.oneCell'=true∧knL l+1≤Rows.uptoBulk x.1:=by
 intro n
 induction n using Nat.strongRecOn with
 |_ n ih=>
  intro cs x h
  obtain ⟨xs,m,rfl,hx,hl,hxs,hf⟩:=DataW.trod_struct Tryz.underlying24 h
  rw[cells24] at hl
  obtain ⟨v,rfl⟩:∃v,cs=[v]:=by
   match cs,hl with
   | [v],_=>exact ⟨v,rfl⟩
  have h0:=hf 0 {name:= "L",type:=22,offset:=0,embedded:=false,tag:= "",pkgPath:= "",byteOffset:=0} rfl
  simp only[cells22,List.drop_zero] at h0
  obtain ⟨y,rfl⟩:∃y,xs=[y]:=by
   match xs,hxs with
   | [y],_=>exact ⟨y,rfl⟩
  rw[List.getElem?_cons_zero] at h0
  obtain ⟨l,v',h1,h2,h3,h4⟩:=open_elems_b (k:=.agg 1) Tryz.underlying22 cells24 (by decide) encK knF (fun m' cs' x' hm h'=>by
   obtain ⟨l',v',e1,e2,e3,e4⟩:=ih m' (by omega) cs' x' h'
   refine ⟨KindT.mk l',.agg #[v'],by simp[Value.cells,e1],?_,by simp only[Sz.okV,Bool.and_eq_true,List.all_eq_true];exact ⟨rfl,fun z hz=>by simp at hz;rw[hz];exact e3⟩,by rw[knF];omega⟩
   rw[encK_mk,Rep]
   exact ⟨#[v'],rfl,by rw[RepL];exact ⟨v',[],rfl,e2,by rw[RepL]⟩,fun z hz=>by simp at hz;rw[hz];exact e3⟩) h0
  simp at h1
  subst h1
  refine ⟨l,v,rfl,h2,h3,?_⟩
  rw[hx,←knL_sum]
  simp only[List.map_cons,List.map_nil,Rows.uptoBulk,Rows.uptoBulkAll]
  omega
theorem open_con_b:∀(n:Nat) (cs:List Value) (x:DataW H×List MemPlace),DataW.trod enc Tryz.prog W base sp hd n 28 cs=some x →
  ∃(c:ConT) (u:Value),u.cells.toList=cs∧Rep (memI W) (encC c) u∧Sz.okV (.agg 6) u=true∧blC c≤Rows.uptoBulk x.1:=by
 intro n
 induction n using Nat.strongRecOn with
 |_ n ih=>
  intro cs x h
  obtain ⟨xs,m,rfl,hx,hl,hxs,hf⟩:=DataW.trod_struct Tryz.underlying28 h
  rw[cells28] at hl
  obtain ⟨v0,v1,v2,v3,v4,v5,rfl⟩:∃v0 v1 v2 v3 v4 v5,cs=[v0,v1,v2,v3,v4,v5]:=by
   match cs,hl with
   | [v0,v1,v2,v3,v4,v5],_=>exact ⟨v0,v1,v2,v3,v4,v5,rfl⟩
  obtain ⟨y0,y1,y2,y3,y4,y5,rfl⟩:∃y0 y1 y2 y3 y4 y5,xs=[y0,y1,y2,y3,y4,y5]:=by
   match xs,hxs with
   | [y0,y1,y2,y3,y4,y5],_=>exact ⟨y0,y1,y2,y3,y4,y5,rfl⟩
  have h0:=hf 0 {name:= "Op",type:=3,offset:=0,embedded:=false,tag:= "",pkgPath:= "",byteOffset:=0} rfl
  have h1:=hf 1 {name:= "N",type:=3,offset:=1,embedded:=false,tag:= "",pkgPath:= "",byteOffset:=8} rfl
  have h2:=hf 2 {name:= "S",type:=9,offset:=2,embedded:=false,tag:= "",pkgPath:= "",byteOffset:=16} rfl
  have h3:=hf 3 {name:= "Kind",type:=24,offset:=3,embedded:=false,tag:= "",pkgPath:= "",byteOffset:=32} rfl
  have h4:=hf 4 {name:= "Names",type:=25,offset:=4,embedded:=false,tag:= "",pkgPath:= "",byteOffset:=56} rfl
  have h5:=hf 5 {name:= "L",type:=26,offset:=5,embedded:=false,tag:= "",pkgPath:= "",byteOffset:=80} rfl
  simp only[cells3,cells9,cells24,cells25,cells26,List.drop_succ_cons,List.drop_zero,List.take_succ_cons,List.take_zero,List.getElem?_cons_zero,List.getElem?_cons_succ] at h0 h1 h2 h3 h4 h5
  obtain ⟨op,k0⟩:=open_i64 h0
  obtain ⟨nn,k1⟩:=open_i64 h1
  obtain ⟨s,us,k2,r2,_,m2⟩:=open_str_b h2
  obtain ⟨kl,vk,k3,r3,o3,m3⟩:=open_kind_b _ _ _ h3
  obtain ⟨names,vn,k4,r4,o4,m4⟩:=open_elems_b (k:=.one) Tryz.underlying25 cells9 (by decide) PV.str (fun x:ByteArray=>x.size+1) (fun m' cs' x' hm h'=>open_str_b h') h4
  obtain ⟨l,vl,k5,r5,o5,m5⟩:=open_elems_b (k:=.agg 6) Tryz.underlying26 cells28 (by decide) encC blC (fun m' cs' x' hm h'=>ih m' (by omega) cs' x' h') h5
  rw[Rep] at r2
  subst r2
  simp[Value.cells] at k0 k1 k2 k3 k4 k5
  subst k0 k1 k2 k3 k4 k5
  have hone:∀z∈#[Value.int .i64 op,.int .i64 nn,.string s,v3,v4,v5].toList,z.oneCell'=true:=by
   intro z hz
   simp only[List.mem_cons,List.not_mem_nil,or_false] at hz
   rcases hz with rfl|rfl|rfl|rfl|rfl|rfl
   ·rfl
   ·rfl
   ·rfl
   ·exact o3
   ·exact o4
   ·exact o5
  refine ⟨.mk op nn s kl names l,.agg #[.int .i64 op,.int .i64 nn,.string s,v3,v4,v5],rfl,?_,?_,?_⟩
  ·rw[encC_mk,Rep]
   refine ⟨_,rfl,?_,hone⟩
   simp only[RepL,Rep]
   rw[Rep] at r3 r4 r5
   exact ⟨_,_,rfl,rfl,_,_,rfl,rfl,_,_,rfl,rfl,_,_,rfl,r3,_,_,rfl,r4,_,_,rfl,r5,rfl⟩
  ·simp only[Sz.okV,Bool.and_eq_true,List.all_eq_true]
   exact ⟨rfl,hone⟩
  ·rw[hx,blC,←blCs_sum]
   simp only[List.map_cons,List.map_nil,Rows.uptoBulk,Rows.uptoBulkAll]
   omega
theorem RepL_append {I:Imm}:∀{a b:List PV}{xs ys:List Value},RepL I a xs→RepL I b ys→RepL I (a++b) (xs++ys)
 | [],b,xs,ys,h,h'=>by rw[RepL] at h;subst h;exact h'
 |p::a,b,xs,ys,h,h'=>by
  rw[RepL] at h
  obtain ⟨v,r,rfl,h1,h2⟩:=h
  rw[List.cons_append,List.cons_append,RepL]
  exact ⟨v,_,rfl,h1,RepL_append h2 h'⟩
theorem con_cells {I:Imm}{c:ConT}{u:Value}{cs:List Value}(h:Rep I (encC c) u) (h1:Sz.okV (.agg 6) u=true) (h2:u.cells.toList=cs):RepL I c.cells cs∧∀z∈cs,z.oneCell'=true:=by
 rw[encC_cells,Rep] at h
 obtain ⟨us,rfl,h3,h4⟩:=h
 simp only[Value.cells] at h2
 subst h2
 exact ⟨h3,h4⟩
theorem cellsTL:Tryz.prog.cellsOf 29=1:=by kernel_rfl
theorem cellsT:Tryz.prog.cellsOf 31=18:=by kernel_rfl
theorem encT_parts (op n:Int) (s:ByteArray) (con to:ConT) (k:List KindT) (names:List ByteArray) (l:List TermT):encT (.mk op n s con to k names l) =
  .agg (([.int .i64 op,.int .i64 n,.str s]++con.cells)++(to.cells++[.slice (k.map encK),.slice (names.map .str),.slice (l.map encT)])):=by rw[encT_mk];rfl
theorem open_term:∀(n:Nat) (cs:List Value) (x:DataW H×List MemPlace),DataW.trod enc Tryz.prog W base sp hd n 31 cs=some x →
  ∃(c:TermT) (u:Value),u.cells.toList=cs∧Rep (memI W) (encT c) u∧Sz.okV (.agg 18) u=true∧blT c≤Rows.uptoBulk x.1:=by
 intro n
 induction n using Nat.strongRecOn with
 |_ n ih=>
  intro cs x h
  obtain ⟨xs,m,rfl,hx,hl,hxs,hf⟩:=DataW.trod_struct Tryz.underlying31 h
  rw[cellsT] at hl
  obtain ⟨v0,v1,v2,v3,v4,v5,v6,v7,v8,v9,v10,v11,v12,v13,v14,v15,v16,v17,rfl⟩:∃v0 v1 v2 v3 v4 v5 v6 v7 v8 v9 v10 v11 v12 v13 v14 v15 v16 v17,cs=[v0,v1,v2,v3,v4,v5,v6,v7,v8,v9,v10,v11,v12,v13,v14,v15,v16,v17]:=by
   match cs,hl with
   | [v0,v1,v2,v3,v4,v5,v6,v7,v8,v9,v10,v11,v12,v13,v14,v15,v16,v17],_=>exact ⟨v0,v1,v2,v3,v4,v5,v6,v7,v8,v9,v10,v11,v12,v13,v14,v15,v16,v17,rfl⟩
  obtain ⟨y0,y1,y2,y3,y4,y5,y6,y7,rfl⟩:∃y0 y1 y2 y3 y4 y5 y6 y7,xs=[y0,y1,y2,y3,y4,y5,y6,y7]:=by
   match xs,hxs with
   | [y0,y1,y2,y3,y4,y5,y6,y7],_=>exact ⟨y0,y1,y2,y3,y4,y5,y6,y7,rfl⟩
  have h0:=hf 0 {name:= "Op",type:=3,offset:=0,embedded:=false,tag:= "",pkgPath:= "",byteOffset:=0} rfl
  have h1:=hf 1 {name:= "N",type:=3,offset:=1,embedded:=false,tag:= "",pkgPath:= "",byteOffset:=8} rfl
  have h2:=hf 2 {name:= "S",type:=9,offset:=2,embedded:=false,tag:= "",pkgPath:= "",byteOffset:=16} rfl
  have h3:=hf 3 {name:= "Con",type:=28,offset:=3,embedded:=false,tag:= "",pkgPath:= "",byteOffset:=32} rfl
  have h4:=hf 4 {name:= "To",type:=28,offset:=9,embedded:=false,tag:= "",pkgPath:= "",byteOffset:=136} rfl
  have h5:=hf 5 {name:= "Kind",type:=24,offset:=15,embedded:=false,tag:= "",pkgPath:= "",byteOffset:=240} rfl
  have h6:=hf 6 {name:= "Names",type:=25,offset:=16,embedded:=false,tag:= "",pkgPath:= "",byteOffset:=264} rfl
  have h7:=hf 7 {name:= "L",type:=29,offset:=17,embedded:=false,tag:= "",pkgPath:= "",byteOffset:=288} rfl
  simp only[cells3,cells9,cells24,cells25,cells28,cellsTL,List.drop_succ_cons,List.drop_zero,List.take_succ_cons,List.take_zero,List.getElem?_cons_zero,List.getElem?_cons_succ] at h0 h1 h2 h3 h4 h5 h6 h7
  obtain ⟨op,k0⟩:=open_i64 h0
  obtain ⟨nn,k1⟩:=open_i64 h1
  obtain ⟨s,us,k2,r2,_,m2⟩:=open_str_b h2
  obtain ⟨con,uc,kc,rc,oc,mc⟩:=open_con_b _ _ _ h3
  obtain ⟨to,ut,kt,rt,ot,mt⟩:=open_con_b _ _ _ h4
  obtain ⟨kl,vk,k3,r3,o3,m3⟩:=open_kind_b _ _ _ h5
  obtain ⟨names,vn,k4,r4,o4,m4⟩:=open_elems_b (k:=.one) Tryz.underlying25 cells9 (by decide) PV.str (fun x:ByteArray=>x.size+1) (fun m' cs' x' hm h'=>open_str_b h') h6
  obtain ⟨l,vl,k5,r5,o5,m5⟩:=open_elems_b (k:=.agg 18) Tryz.underlying29 cellsT (by decide) encT blT (fun m' cs' x' hm h'=>ih m' (by omega) cs' x' h') h7
  obtain ⟨ec,pc⟩:=con_cells rc oc kc
  obtain ⟨et,pt⟩:=con_cells rt ot kt
  rw[Rep] at r2
  subst r2
  simp[Value.cells] at k0 k1 k2 k3 k4 k5
  subst k0 k1 k2 k3 k4 k5
  have hone:∀z∈#[Value.int .i64 op,.int .i64 nn,.string s,v3,v4,v5,v6,v7,v8,v9,v10,v11,v12,v13,v14,v15,v16,v17].toList,z.oneCell'=true:=by
   intro z hz
   have hz':z∈[Value.int .i64 op,.int .i64 nn,.string s]∨z∈[v3,v4,v5,v6,v7,v8]∨z∈[v9,v10,v11,v12,v13,v14]∨z∈[v15,v16,v17]:=by
    rw[←List.mem_append,←List.mem_append,←List.mem_append]
    exact hz
   rcases hz' with hz|hz|hz|hz
   ·simp only[List.mem_cons,List.not_mem_nil,or_false] at hz
    rcases hz with rfl|rfl|rfl<;>rfl
   ·exact pc z hz
   ·exact pt z hz
   ·simp only[List.mem_cons,List.not_mem_nil,or_false] at hz
    rcases hz with rfl|rfl|rfl
    ·exact o3
    ·exact o4
    ·exact o5
  refine ⟨.mk op nn s con to kl names l,.agg #[.int .i64 op,.int .i64 nn,.string s,v3,v4,v5,v6,v7,v8,v9,v10,v11,v12,v13,v14,v15,v16,v17],rfl,?_,?_,?_⟩
  ·rw[encT_parts,Rep]
   refine ⟨_,rfl,?_,hone⟩
   refine RepL_append (xs:=[.int .i64 op,.int .i64 nn,.string s]++[v3,v4,v5,v6,v7,v8]) (ys:=[v9,v10,v11,v12,v13,v14]++[v15,v16,v17]) (RepL_append ?_ ec) (RepL_append et ?_)
   ·simp only[RepL,Rep]
    exact ⟨_,_,rfl,rfl,_,_,rfl,rfl,_,_,rfl,rfl,rfl⟩
   ·simp only[RepL]
    exact ⟨_,_,rfl,r3,_,_,rfl,r4,_,_,rfl,r5,rfl⟩
  ·simp only[Sz.okV,Bool.and_eq_true,List.all_eq_true]
   exact ⟨rfl,hone⟩
  ·rw[hx,blT,←blTs_sum]
   simp only[List.map_cons,List.map_nil,Rows.uptoBulk,Rows.uptoBulkAll]
   omega
/-! What the bound gives -/
theorem arg_term {v:Value}{d:DataW H}{ps:List MemPlace}(hv:Value.okWide Tryz.prog W .any base' 31 v) (h:DataW.Trod enc Tryz.prog W base sp hd 31 v d ps):∃c:TermT,Rep (memI W) (encT c) v∧blT c≤Rows.uptoBulk d:=by
 obtain ⟨n,hn⟩:=h
 obtain ⟨c,u,h1,h2,h3,h4⟩:=open_term n _ _ hn
 rw[Value.okWide,Tryz.underlying31] at hv
 obtain ⟨cs,rfl,_⟩:=hv
 have hu:u=.agg cs:=by
  cases u with
  |agg us=>simp[Value.cells] at h1;rw[h1]
  |_=>simp[Sz.okV] at h3
 exact ⟨c,hu ▸ h2,h4⟩
theorem arg_int {v:Value}{d:DataW H}{ps:List MemPlace}(hv:Value.okWide Tryz.prog W .any base' 3 v) (h:DataW.Trod enc Tryz.prog W base sp hd 3 v d ps):∃n:Int,Rep (memI W) (.int .i64 n) v:=by
 obtain ⟨m,hm⟩:=h
 obtain ⟨n,h1⟩:=open_i64 hm
 refine ⟨n,?_⟩
 rw[Value.okWide,Tryz.underlying3] at hv
 simp only[Cell.okWide,Tryz.underlying3] at hv
 cases v<;>simp[Cell.ok,Tryz.underlying3] at hv<;>simp[Value.cells] at h1
 obtain ⟨rfl,rfl⟩:=h1
 rfl
end
end Go.Abs.Kon