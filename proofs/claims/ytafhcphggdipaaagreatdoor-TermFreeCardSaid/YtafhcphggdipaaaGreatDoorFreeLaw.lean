/- The law TermFree. -/
import Derived.Test.YtafhcphggdipaaaGreatDoorTermE
import Derived.Test.YtafhcphggdipaaaGreatDoorTermG
import Derived.Test.YtafhcphggdipaaaGreatDoorTermX
set_option linter.unusedSimpArgs false
set_option linter.unusedVariables false
namespace Go.Abs.Kon
open Go Go.Proofs Go.Abs
set_option maxRecDepth 100000
set_option maxHeartbeats 4000000
theorem added_spec (l:List Int) (n:Int) (h:∀x∈l,-1000000≤x+n∧x+n≤1000000) (hl:l.length≤1000000000):Spec Tryz.prog 16 [pp (.slice (ints l)),ii n] [] (.slice (ints (l.map (· + n)))) []:=by
 refine wk (rv:=[.tmp 4]) ann16 22 Tryz.func16 ?_
 simp only[go_sem,List.length_map]
 refine aLoop_list (α:=Int) (β:=Nat×List Int) (fun rest b=>⟨[(10,ii b.1),(1,ii n),(5,.one (acc 38 .one (ints b.2))),(8,pp (.slice (ints l))),(9,ii l.length)],[],[]⟩)
   (fun rest b=>∃pre,l=pre++rest∧b.1=pre.length∧b.2=pre.map (· + n)) ?_ ?_ l (0,[]) _ ?_ ⟨[],rfl,rfl,rfl⟩
 · rintro ⟨m,out⟩ ⟨pre,g1,g2,g3⟩ K
   simp only[List.append_nil] at g1 g2 g3
   subst g1
   rw[←g3]
   simp only[go_sem,g2,lt_false (Int.le_refl _)]
   cases out<;>simp only[go_sem,acc,List.map_nil,List.map_cons]
 · rintro x rest ⟨m,out⟩ ⟨pre,g1,g2,g3⟩ K hK
   simp only at g2 g3
   have hx:(ints l)[m]? = some (.int .i64 x):=by simp[g1,g2,ints]
   have hlt:(m:Int)<l.length:=by rw[g1,g2];simp;omega
   have hll:l.length=m+(rest.length+1):=by rw[g1,g2];simp
   have ho:out.length=m:=by rw[g3,g2];simp
   obtain ⟨x1,x2⟩:=h x (by simp[g1])
   have w1:IntKind.i64.wrap (x+n)=x+n:=wrap_id (by omega) (by omega)
   have w4:IntKind.i64.wrap ((m:Int)+1)=((m+1:Nat):Int):=by rw[wrap_id (by omega) (by omega)];simp
   have hK':=fun s' hs=>hK (m+1,out++[x+n]) s' hs ⟨pre++[x],by simp[g1],by simp[g2],by simp[g3]⟩
   clear hK
   have hb1:(out.length+1)*8≤140737488355328:=by omega
   have hb2:out.length+1≤maxLen:=by rw[maxLen_eq];omega
   cases out
   · simp only[go_sem,acc,decide_eq_true hlt,Int.toNat_natCast,Int.natCast_nonneg,hx,w1,w4,one_le_maxLen,List.map_nil]
     try (refine ⟨by kernel_rfl,?_⟩;try simp only[go_sem,w1,w4,one_le_maxLen])
     refine hK' _ ?_
     simp only[go_sem,acc,List.map_cons,List.map_nil,List.nil_append]
   · simp only[List.length_cons] at hb1 hb2
     simp only[go_sem,acc,decide_eq_true hlt,Int.toNat_natCast,Int.natCast_nonneg,hx,w1,w4,List.map_cons,List.length_map,hb1,hb2]
     try (refine ⟨by kernel_rfl,?_⟩;try simp only[go_sem,w1,w4,List.length_map,hb1,hb2])
     refine hK' _ ?_
     simp only[go_sem,acc,List.map_cons,List.map_append,List.map_nil,List.cons_append]
 · simp only[go_sem,acc,List.map_nil,Int.natCast_zero]
theorem eq_ints (l:List Int):Spec Tryz.prog 15 [pp (.slice (ints l)),pp (.slice (ints l))] [] (.bool true) []:=by
 have:=EqualI l l
 rw[eqL_refl intEq (fun x=>by simp[intEq])] at this
 exact this
theorem encT_one:encT oneT=.agg [.int .i64 2,.int .i64 1,.str ByteArray.empty,.int .i64 0,.int .i64 0,.str ByteArray.empty,.slice [],.slice [],.slice [],.int .i64 0,.int .i64 0,.str ByteArray.empty,.slice [],.slice [],.slice [],.slice [],.slice [],.slice []]:=rfl
theorem inB_u8 {n:Int}(h1:0≤n) (h2:n≤255):inB n=true:=by
 rw[inB,decide_eq_true (by omega),decide_eq_true (by omega)];rfl
theorem ShiftT_up {t:TermT}{n m:Int}(h:validT t=true) (h1:0≤n) (h2:n≤255) (h3:0≤m) (h4:m≤255):ShiftT t n m=keptT (shM n m t):=
 ShiftT_M h (inB_u8 h1 h2) (inB_u8 h3 h4)
   (head_nonneg fun i hi=>by have:=consF_n t 0 (by decide) i ((sortU_mem _).1 hi);omega)
   (head_nonneg fun i hi=>by have:=termsF_n t 0 (valid_wf h).1 (by decide) i ((sortU_mem _).1 hi);omega)
theorem FreeT_valid {t:TermT}(h:validT t=true):FreeT t=(sortU (consF t 0),sortU (termsF t 0),0):=by rw[FreeT,if_pos h]
theorem sorted_len {l:List Int}(h:l.Pairwise (· < ·)) (h':∀x∈l,0≤x∧x≤20000):l.length≤20001:=by
 have:=asc_len l 0 20000 h h'
 omega
theorem TermFree_spec (t:TermT) (n m:Int) (n1:0≤n) (n2:n≤255) (m1:0≤m) (m2:m≤255) (hok:okT t) (hwc:wcT t) :
   Spec Tryz.prog 3 [pp (encT t),pp (.int .u8 n),pp (.int .u8 m)] [] (.bool true) []:=by
 have hAw:=tawake_spec
 have hB1:=big_spec t
 have hV:=rtValid_spec t hok
 generalize bigT t=b1 at hB1
 cases b1 with
 |true=>
   refine wk (rv:=[.tmp 6]) ann3 112 Tryz.func3 ?_
   simp only[go_sem]
   refine aCall_intro hAw ?_
   simp only[go_sem,encT_sz]
   refine aCall_intro hB1 ?_
   simp only[go_sem]
 |false=>
 cases hv:validT t with
 |false=>
   rw[hv] at hV
   refine wk (rv:=[.tmp 6]) ann3 112 Tryz.func3 ?_
   simp only[go_sem]
   refine aCall_intro hAw ?_
   simp only[go_sem,encT_sz]
   refine aCall_intro hB1 ?_
   simp only[go_sem,encT_sz]
   refine aCall_intro hV ?_
   simp only[go_sem]
 |true=>
 rw[hv] at hV
 obtain ⟨hwf,hd⟩:=valid_wf hv
 have hF:=tFreeX_spec t hok hwc
 rw[FreeT_valid hv] at hF
 have hSh:=tShift_spec t n m hok hwc
 rw[ShiftT_up hv n1 n2 m1 m2] at hSh
 obtain ⟨ox,wx⟩:=shM_okwc n m hok hwc
 have hFX:=tFreeX_spec (shM n m t) ox wx
 have hone:okT oneT∧wcT oneT:=⟨okT_intA 1,wcT_intA 1⟩
 have hSu:=tSubst_spec t oneT hok hwc hone.1 hone.2
 obtain ⟨y1,y2⟩:=subst_one hv
 rw[y1,encT_one] at hSu
 obtain ⟨oy,wy⟩:=subM_okwc hok hwc hone.1 hone.2
 have hFY:=tFreeX_spec (subM oneT t) oy wy
 rw[FreeT_valid y2,cons_one hwf,terms_one hwf] at hFY
 have hKX:((keptT (shM n m t)).2=0∧(keptT (shM n m t)).1=shM n m t∧FreeT (shM n m t)=((sortU (consF t 0)).map (· + n),(sortU (termsF t 0)).map (· + m),0))∨(keptT (shM n m t)).2=6:=by
   rw[keptT]
   cases hx:validT (shM n m t) with
   |true=>
     left
     rw[if_pos rfl,FreeT_valid hx,cons_shM n1 hwf (valid_wf hx).1,terms_shM m1 hwf]
     exact ⟨rfl,rfl,rfl⟩
   |false=>right;rw[if_neg (by decide)]
 have hb1:∀x∈sortU (consF t 0),0≤x∧x≤20000:=fun x hx=>consF_n t 0 (by decide) x (sortU_mem _ |>.1 hx)
 have hb2:∀x∈sortU (termsF t 0),0≤x∧x≤20000:=fun x hx=>termsF_n t 0 hwf (by decide) x (sortU_mem _ |>.1 hx)
 have hl1:=sorted_len (sortU_asc (consF t 0)) hb1
 have hl2:=sorted_len (sortU_asc (termsF t 0)) hb2
 obtain ⟨dz1,dz2⟩:=dropZ_mem (sortU_asc (termsF t 0)) fun x hx=>(hb2 x hx).1
 have hA1:=added_spec (sortU (consF t 0)) n (fun x hx=>by have:=hb1 x hx;omega) (by omega)
 have hA2:=added_spec (sortU (termsF t 0)) m (fun x hx=>by have:=hb2 x hx;omega) (by omega)
 have hA3:=added_spec (dropZ (sortU (termsF t 0))) (-1) (fun x hx=>by have:=hb2 x ((dz2 x).1 hx).1;omega) (by
   have:(dropZ (sortU (termsF t 0))).length≤(sortU (termsF t 0)).length:=by
     cases sortU (termsF t 0) with
     |nil=>exact Nat.le_refl _
     |cons y r=>rw[dropZ];split<;>simp
   omega)
 have i1:IntKind.i64.wrap n=n:=wrap_id (by omega) (by omega)
 have i2:IntKind.i64.wrap m=m:=wrap_id (by omega) (by omega)
 clear hb1 hb2 hl1 hl2 dz1 dz2 ox wx oy wy y1 y2 hone
 generalize keptT (shM n m t)=K at hSh hKX
 generalize shM n m t=X at hFX hKX
 generalize subM oneT t=Y at hSu hFY
 generalize sortU (consF t 0)=la at *
 generalize sortU (termsF t 0)=lb at *
 have q1:=eq_ints (la.map (· + n))
 have q2:=eq_ints (lb.map (· + m))
 have q3:=eq_ints la
 have q4:=eq_ints ((dropZ lb).map (· + -1))
 generalize la.map (· + n)=lan at *
 generalize lb.map (· + m)=lbm at *
 generalize hz:dropZ lb=lz at *
 generalize lz.map (· + -1)=lzz at *
 refine wk (rv:=[.tmp 6]) ann3 112 Tryz.func3 ?_
 simp only[go_sem]
 refine aCall_intro hAw ?_
 simp only[go_sem,encT_sz]
 refine aCall_intro hB1 ?_
 simp only[go_sem,encT_sz]
 refine aCall_intro hV ?_
 simp only[go_sem,encT_sz]
 refine aCall_intro hF ?_
 simp only[go_sem,encT_sz,i1,i2]
 refine aCall_intro hSh ?_
 have e00:((0:Int) != 0)=false:=rfl
 have e00':((0:Int)==0)=true:=rfl
 have e60:((6:Int)==0)=false:=rfl
 have d0:decide (((0:Nat):Int)>0)=false:=rfl
 have d1:∀r:Nat,decide (((r+1:Nat):Int)>0)=true:=fun r=>decide_eq_true (by omega)
 rcases hKX with ⟨k0,k1,k2⟩|k0
 · rw[k2] at hFX
   simp only[go_sem,encT_sz,k0,k1,e00,e00',e60]
   refine aCall_intro hFX ?_
   simp only[go_sem,e00,i1,i2]
   refine aCall_intro hA1 ?_
   simp only[go_sem]
   refine aCall_intro q1 ?_
   simp only[go_sem,i1,i2]
   refine aCall_intro hA2 ?_
   simp only[go_sem]
   refine aCall_intro q2 ?_
   simp only[go_sem]
   refine aCall_intro hSu ?_
   simp only[go_sem,encT_sz,e00]
   refine aCall_intro hFY ?_
   cases lb with
   |nil=>
     simp only[dropZ] at hz
     subst hz
     simp only[go_sem,List.length_map,List.length_nil,List.map_nil,d0,e00']
     refine aCall_intro q3 ?_
     simp only[go_sem]
     refine aCall_intro hA3 ?_
     simp only[go_sem]
     refine aCall_intro q4 ?_
     simp only[go_sem]
   |cons y r=>
     rw[dropZ] at hz
     by_cases hy:y=0
     · rw[if_pos hy] at hz
       subst hz hy
       have s1:((List.map (PV.int .i64) r).all fun x=>PV.hasSz .one x)=true:=ints_all r
       have s2:(1≤((r.length+1:Nat):Int)∧((r.length+1:Nat):Int)≤((r.length+1:Nat):Int))=True:=by simp;omega
       have s3:List.drop 1 (List.take (r.length+1) (PV.int .i64 0::List.map (PV.int .i64) r))=List.map (PV.int .i64) r:=by
         rw[List.take_of_length_le (by simp)];rfl
       have s4:List.take r.length (List.map (PV.int .i64) r)=List.map (PV.int .i64) r:=List.take_of_length_le (by simp)
       simp only[go_sem,List.length_map,List.length_cons,List.map_cons,d1,e00',s1,s2,Int.toNat_natCast,s3,s4]
       refine aCall_intro q3 ?_
       simp only[go_sem]
       refine aCall_intro hA3 ?_
       simp only[go_sem]
       refine aCall_intro q4 ?_
       simp only[go_sem]
     · rw[if_neg hy] at hz
       subst hz
       have hy':(y==0)=false:=by simp[hy]
       simp only[go_sem,List.length_map,List.length_cons,List.map_cons,d1,hy',e00']
       refine aCall_intro q3 ?_
       simp only[go_sem]
       refine aCall_intro hA3 ?_
       simp only[go_sem]
       refine aCall_intro q4 ?_
       simp only[go_sem]
 · simp only[go_sem,encT_sz,k0,e00,e00',e60]
   refine aCall_intro hSu ?_
   simp only[go_sem,encT_sz,e00]
   refine aCall_intro hFY ?_
   cases lb with
   |nil=>
     simp only[dropZ] at hz
     subst hz
     simp only[go_sem,List.length_map,List.length_nil,List.map_nil,d0,e00']
     refine aCall_intro q3 ?_
     simp only[go_sem]
     refine aCall_intro hA3 ?_
     simp only[go_sem]
     refine aCall_intro q4 ?_
     simp only[go_sem]
   |cons y r=>
     rw[dropZ] at hz
     by_cases hy:y=0
     · rw[if_pos hy] at hz
       subst hz hy
       have s1:((List.map (PV.int .i64) r).all fun x=>PV.hasSz .one x)=true:=ints_all r
       have s2:(1≤((r.length+1:Nat):Int)∧((r.length+1:Nat):Int)≤((r.length+1:Nat):Int))=True:=by simp;omega
       have s3:List.drop 1 (List.take (r.length+1) (PV.int .i64 0::List.map (PV.int .i64) r))=List.map (PV.int .i64) r:=by
         rw[List.take_of_length_le (by simp)];rfl
       have s4:List.take r.length (List.map (PV.int .i64) r)=List.map (PV.int .i64) r:=List.take_of_length_le (by simp)
       simp only[go_sem,List.length_map,List.length_cons,List.map_cons,d1,e00',s1,s2,Int.toNat_natCast,s3,s4]
       refine aCall_intro q3 ?_
       simp only[go_sem]
       refine aCall_intro hA3 ?_
       simp only[go_sem]
       refine aCall_intro q4 ?_
       simp only[go_sem]
     · rw[if_neg hy] at hz
       subst hz
       have hy':(y==0)=false:=by simp[hy]
       simp only[go_sem,List.length_map,List.length_cons,List.map_cons,d1,hy',e00']
       refine aCall_intro q3 ?_
       simp only[go_sem]
       refine aCall_intro hA3 ?_
       simp only[go_sem]
       refine aCall_intro q4 ?_
       simp only[go_sem]
theorem TermFree_all (t:TermT) (n m:Int) (n1:0≤n) (n2:n≤255) (m1:0≤m) (m2:m≤255) (h:okTL t) :
   Spec Tryz.prog 3 [pp (encT t),pp (.int .u8 n),pp (.int .u8 m)] [] (.bool true) []:=by
 have hV:=rtValid_specL t h
 cases hv:validT t with
 |true=>exact TermFree_spec t n m n1 n2 m1 m2 (valid_okwc hv).1 (valid_okwc hv).2
 |false=>
 rw[hv] at hV
 have hAw:=tawake_spec
 have hB1:=big_spec t
 generalize bigT t=b1 at hB1
 refine wk (rv:=[.tmp 6]) ann3 112 Tryz.func3 ?_
 simp only[go_sem]
 refine aCall_intro hAw ?_
 simp only[go_sem,encT_sz]
 refine aCall_intro hB1 ?_
 cases b1 with
 |true=>simp only[go_sem]
 |false=>
 simp only[go_sem,encT_sz]
 refine aCall_intro hV ?_
 simp only[go_sem]
end Go.Abs.Kon
