/- Terms. -/
import Derived.Test.YtokeiaiddaojnaaGreatDoorTermD
import Derived.Test.YtokeiaiddaojnaaGreatDoorKonH
import Derived.Test.YtokeiaiddaojnaaGreatDoorTermB
set_option linter.unusedSimpArgs false
set_option linter.unusedVariables false
namespace Go.Abs.Kon
open Go Go.Proofs Go.Abs
set_option maxRecDepth 100000
set_option maxHeartbeats 4000000
section fuse
variable {c1 c2 c3 c4:ConT→Int→ConT}{v1 v2 v3 v4:Int→Int→Int→TermT}{b1 b2 b3 b4 d1 d2 d3 d4:Int}
end fuse
/-! Rebuilding is mapping -/
section kept
variable {cf:ConT→Int→Int→ConT×Int}{vf:Int→Int→Int→TermT×Int}{cf':ConT→Int→ConT}{vf':Int→Int→Int→TermT}
end kept
/-! There and back -/
/-! Substitutions commute -/
/-! How great it is -/
/-! Under binders -/
theorem rtCons_spec (op n:Int) (s:ByteArray) (con to:ConT) (k:List KindT) (names:List ByteArray) (l:List TermT) (i:Nat):Spec Tryz.prog 154 [pp (encT (.mk op n s con to k names l)),ii i] [] (.int .i64 (consR op i)) []:=by
 generalize hres:consR op i=res
 rw[consR] at hres
 have e1:(i=1)↔((i:Int)==1)=true:=by simp;omega
 refine wk (rv:=[.tmp 4]) ann154 17 Tryz.func154 ?_
 simp only[go_sem,encT_mk]
 repeat' ((first|refine condK_intro (fun _=>?_) (fun _=>?_)|refine guardK_intro (fun _=>?_) (fun _=>?_))<;>simp only[go_sem,List.length_map])
 all_goals (subst hres;simp_all)
theorem rtTerms_spec (op n:Int) (s:ByteArray) (con to:ConT) (k:List KindT) (names:List ByteArray) (l:List TermT) (i:Nat):Spec Tryz.prog 156 [pp (encT (.mk op n s con to k names l)),ii i] [] (.int .i64 (termsR op i)) []:=by
 generalize hres:termsR op i=res
 rw[termsR] at hres
 refine wk (rv:=[.tmp 4]) ann156 16 Tryz.func156 ?_
 simp only[go_sem,encT_mk]
 repeat' ((first|refine condK_intro (fun _=>?_) (fun _=>?_)|refine guardK_intro (fun _=>?_) (fun _=>?_))<;>simp only[go_sem,List.length_map])
 all_goals (subst hres;simp_all)
/-! Constructors -/
/-! How great what is made is -/
/-! Free variables -/
theorem mem_aboveF {c:ConT}(h:validF c=true) {u:Int}(hu:0≤u) {i:Int}:i∈above (freeF c) u↔∃x b,(x,b)∈leaves c 0∧x.op=1∧x.n - b≥u∧i=x.n - b - u:=by
 rw[mem_above]
 constructor
 ·rintro ⟨k,h1,h2,rfl⟩
  obtain ⟨x,b,e1,e2,e3,rfl⟩:=mem_freeL.1 ((mem_freeF h).1 h1)
  exact ⟨x,b,e1,e2,h2,rfl⟩
 ·rintro ⟨x,b,e1,e2,e3,rfl⟩
  exact ⟨x.n - b,(mem_freeF h).2 (mem_freeL.2 ⟨x,b,e1,e2,by omega,rfl⟩),e3,rfl⟩
theorem mem_above1 {a w i:Int}:i∈above [a] w↔a≥w∧i=a - w:=by
 rw[mem_above]
 constructor
 ·rintro ⟨n,h,h1,h2⟩
  rw[List.mem_singleton] at h
  subst h
  exact ⟨h1,h2⟩
 ·rintro ⟨h1,h2⟩
  exact ⟨a,by simp,h1,h2⟩
/-! A closed term that is substituted -/
def accQ:Bool→List PV→SC
 |true,l=>acc 54 .one l
 |false,l=>acc 80 .one l
theorem accQ_t (l:List PV):accQ true l=acc 54 .one l:=rfl
theorem accQ_f (l:List PV):accQ false l=acc 80 .one l:=rfl
theorem rAdd_spec (l:List Int) (n:Int) (hl:l.length≤1000000000):Spec Tryz.prog 206 [pp (.slice (ints l)),ii n] [] (.slice (ints (addL n l false))) []:=by
 generalize hres:addL n l false=res
 refine wk (rv:=[.tmp 4]) ann206 48 Tryz.func206 ?_
 simp only[go_sem]
 refine aLoop_list (α:=Int) (β:=Nat×(Bool×List Int)×Bool) (fun rest b=>⟨[(7,ii b.1),(0,pp (.slice (ints l))),(1,ii n),(5,.one (accQ b.2.1.1 (ints b.2.1.2))),(6,bb b.2.2)],[],[]⟩)
  (fun rest b=>∃pre,l=pre++rest∧b.1=pre.length∧b.2.1.2.length≤2*pre.length∧b.2.1.2++addL n rest b.2.2=res) ?_ ?_ l (0,(true,[]),false) _ ?_ ⟨[],rfl,rfl,Nat.le_refl _,by rw[List.nil_append];exact hres⟩
 ·rintro ⟨m,⟨t,cur⟩,d⟩ ⟨pre,g1,g2,g3,g4⟩ K
  cases t
  all_goals
   simp only[List.append_nil] at g1 g2 g3
   subst g1
   rw[addL] at g4
   try simp only at g3
   have hb1:(cur.length+1)*8≤140737488355328:=by omega
   have hb2:cur.length+1≤maxLen:=by rw[maxLen_eq];omega
   cases d with
   |true=>
    simp only[if_true,List.append_nil] at g4
    subst g4
    cases cur<;>simp only[go_sem,g2,lt_false (Int.le_refl _),List.length_map,accQ_t,accQ_f,acc,List.map_nil,List.map_cons]
   |false=>
    simp only[Bool.false_eq_true,if_false] at g4
    subst g4
    cases cur with
    |nil=>simp only[go_sem,g2,lt_false (Int.le_refl _),List.length_map,accQ_t,accQ_f,acc,List.map_nil,List.map_cons,List.nil_append,one_le_maxLen]
    |cons c0 cr=>
     simp only[List.length_cons] at hb1 hb2
     simp only[go_sem,g2,lt_false (Int.le_refl _),List.length_map,accQ_t,accQ_f,acc,List.map_cons,List.map_append,List.map_nil,List.cons_append,hb1,hb2]
 ·rintro x rest ⟨m,⟨t,cur⟩,d⟩ ⟨pre,g1,g2,g3,g4⟩ K hK
  simp only at g2 g3 g4
  have hx:(ints l)[m]? = some (.int .i64 x):=by simp[g1,g2]
  have hlt:(m:Int)<l.length:=by rw[g1,g2];simp;omega
  have hll:m<l.length:=by rw[g1,g2];simp
  have w4:IntKind.i64.wrap ((m:Int)+1)=((m+1:Nat):Int):=by rw[wrap_id (by omega) (by omega)];simp
  have hb1:(cur.length+1)*8≤140737488355328:=by omega
  have hb2:cur.length+1≤maxLen:=by rw[maxLen_eq];omega
  have hb3:(cur.length+1+1)*8≤140737488355328:=by omega
  have hb4:cur.length+1+1≤maxLen:=by rw[maxLen_eq];omega
  have h2le:2≤maxLen:=by rw[maxLen_eq];decide
  rw[addL] at g4
  have hK':=fun (t':Bool) (c':List Int) (d':Bool) (hl:c'.length≤cur.length+2) (e:c'++addL n rest d'=res) s' hs=>hK (m+1,(t',c'),d') s' hs ⟨pre++[x],by simp[g1],by simp[g2],by simp only[List.length_append,List.length_singleton];omega,e⟩
  clear hK
  cases t
  all_goals
   by_cases hn:x=n
   ·have hne:(x != n)=false:=by simp[hn]
    have hge:decide (x≥n)=true:=decide_eq_true (by omega)
    rw[show (if x≠n then [x] else [])=[] from if_neg (fun h=>h hn),List.nil_append,hge,Bool.or_true] at g4
    cases d with
    |true=>
     rw[if_neg (by rintro ⟨e,_⟩;cases e),List.nil_append] at g4
     cases cur<;>(
      simp only[go_sem,decide_eq_true hlt,Int.toNat_natCast,Int.natCast_nonneg,hx,hne,hge,accQ_t,accQ_f,acc,List.map_nil,List.map_cons,List.length_map,w4]
      first
       | (refine hK' true _ true (by omega) g4 _ ?_;simp only[go_sem,accQ_t,accQ_f,acc,List.map_nil,List.map_cons];done)
       | (refine hK' false _ true (by omega) g4 _ ?_;simp only[go_sem,accQ_t,accQ_f,acc,List.map_nil,List.map_cons]))
    |false=>
     rw[if_pos ⟨rfl,by omega⟩] at g4
     cases cur with
     |nil=>
      simp only[go_sem,decide_eq_true hlt,Int.toNat_natCast,Int.natCast_nonneg,hx,hne,hge,accQ_t,accQ_f,acc,List.map_nil,List.map_cons,List.length_map,w4,one_le_maxLen]
      refine hK' true ([]++[n]) true (by simp) (by simpa using g4) _ ?_
      simp only[go_sem,accQ_t,accQ_f,acc,List.map_nil,List.map_cons,List.nil_append]
     |cons c0 cr=>
      simp only[List.length_cons] at hb1 hb2
      simp only[go_sem,decide_eq_true hlt,Int.toNat_natCast,Int.natCast_nonneg,hx,hne,hge,accQ_t,accQ_f,acc,List.map_nil,List.map_cons,List.length_map,w4,hb1,hb2]
      refine hK' true (c0::cr++[n]) true (by simp) (by simpa using g4) _ ?_
      simp only[go_sem,accQ_t,accQ_f,acc,List.map_nil,List.map_cons,List.map_append,List.cons_append]
   ·have hne:(x != n)=true:=by simp[hn]
    rw[if_pos hn] at g4
    by_cases hge:x≥n
    ·have hge':decide (x≥n)=true:=decide_eq_true hge
     rw[hge',Bool.or_true] at g4
     cases d with
     |true=>
      rw[if_neg (by rintro ⟨e,_⟩;cases e),List.nil_append] at g4
      cases cur with
      |nil=>
       simp only[go_sem,decide_eq_true hlt,Int.toNat_natCast,Int.natCast_nonneg,hx,hne,hge',accQ_t,accQ_f,acc,List.map_nil,List.map_cons,List.length_map,w4,one_le_maxLen]
       refine hK' false ([]++[x]) true (by simp) (by simpa using g4) _ ?_
       simp only[go_sem,accQ_t,accQ_f,acc,List.map_nil,List.map_cons,List.nil_append]
      |cons c0 cr=>
       simp only[List.length_cons] at hb1 hb2
       simp only[go_sem,decide_eq_true hlt,Int.toNat_natCast,Int.natCast_nonneg,hx,hne,hge',accQ_t,accQ_f,acc,List.map_nil,List.map_cons,List.length_map,w4,hb1,hb2]
       refine hK' false (c0::cr++[x]) true (by simp) (by simpa using g4) _ ?_
       simp only[go_sem,accQ_t,accQ_f,acc,List.map_nil,List.map_cons,List.map_append,List.cons_append]
     |false=>
      rw[if_pos ⟨rfl,by omega⟩] at g4
      cases cur with
      |nil=>
       simp only[go_sem,decide_eq_true hlt,Int.toNat_natCast,Int.natCast_nonneg,hx,hne,hge',accQ_t,accQ_f,acc,List.map_nil,List.map_cons,List.length_map,w4,one_le_maxLen,h2le]
       refine hK' false ([]++[n]++[x]) true (by simp) (by simpa using g4) _ ?_
       simp only[go_sem,accQ_t,accQ_f,acc,List.map_nil,List.map_cons,List.nil_append,List.cons_append]
      |cons c0 cr=>
       simp only[List.length_cons] at hb1 hb2 hb3 hb4
       simp only[go_sem,decide_eq_true hlt,Int.toNat_natCast,Int.natCast_nonneg,hx,hne,hge',accQ_t,accQ_f,acc,List.map_nil,List.map_cons,List.length_map,List.length_append,w4,hb1,hb2,hb3,hb4]
       refine hK' false (c0::cr++[n]++[x]) true (by simp) (by simpa using g4) _ ?_
       simp only[go_sem,accQ_t,accQ_f,acc,List.map_nil,List.map_cons,List.map_append,List.cons_append]
    ·have hge':decide (x≥n)=false:=decide_eq_false hge
     rw[hge',Bool.or_false,if_neg (fun e=>hge e.2),List.nil_append] at g4
     cases d<;>(cases cur with
      |nil=>
       simp only[go_sem,decide_eq_true hlt,Int.toNat_natCast,Int.natCast_nonneg,hx,hne,hge',accQ_t,accQ_f,acc,List.map_nil,List.map_cons,List.length_map,w4,one_le_maxLen]
       refine hK' false ([]++[x]) _ (by simp) (by simpa using g4) _ ?_
       simp only[go_sem,accQ_t,accQ_f,acc,List.map_nil,List.map_cons,List.nil_append]
      |cons c0 cr=>
       simp only[List.length_cons] at hb1 hb2
       simp only[go_sem,decide_eq_true hlt,Int.toNat_natCast,Int.natCast_nonneg,hx,hne,hge',accQ_t,accQ_f,acc,List.map_nil,List.map_cons,List.length_map,w4,hb1,hb2]
       refine hK' false (c0::cr++[x]) _ (by simp) (by simpa using g4) _ ?_
       simp only[go_sem,accQ_t,accQ_f,acc,List.map_nil,List.map_cons,List.map_append,List.cons_append])
 ·simp only[go_sem,Int.natCast_zero,accQ_t,accQ_f,acc,List.map_nil]
theorem ints_all (l:List Int):((ints l).all fun x=>PV.hasSz .one x)=true:=by
 rw[List.all_eq_true]
 intro x hx
 obtain ⟨n,_,rfl⟩:=List.mem_map.1 hx
 rfl
theorem tAdd_spec (l:List Int) (n:Int) (hl:l.length≤1000000000):Spec Tryz.prog 155 [pp (.slice (ints l)),ii n] [] (.slice (ints (insU n l))) []:=by
 generalize hres:insU n l=res
 refine wk (rv:=[.tmp 4]) ann155 48 Tryz.func155 ?_
 simp only[go_sem]
 refine aLoop_list (α:=Int) (β:=Nat) (fun rest b=>⟨[(5,ii b),(0,pp (.slice (ints l))),(1,ii n)],[],[]⟩)
  (fun rest b=>∃pre,l=pre++rest∧b=pre.length∧pre++insU n rest=res) ?_ ?_ l 0 _ ?_ ⟨[],rfl,rfl,by rw[List.nil_append];exact hres⟩
 ·rintro m ⟨pre,g1,g2,g4⟩ K
  simp only[List.append_nil] at g1
  subst g1
  rw[insU] at g4
  subst g4
  rcases l with _|⟨y,q⟩
  ·obtain rfl:m=0:=g2
   have c0:(((0:Nat):Int))=0:=rfl
   simp only[go_sem,c0,lt_false (Int.le_refl _),List.length_nil,List.map_nil,Int.le_refl,Int.reduceToNat,List.take_nil,List.drop_nil,List.nil_append,List.map_cons,one_le_maxLen,Nat.zero_le,Nat.zero_mul,Nat.zero_add]
   try (refine ⟨by kernel_rfl,?_⟩;try simp only[go_sem,c0,List.nil_append,one_le_maxLen,List.length_nil,List.map_nil,Int.le_refl,Int.reduceToNat,List.take_nil,List.drop_nil,Nat.zero_le,Nat.zero_mul,Nat.zero_add])
  ·have hta:List.take q.length (ints q)=ints q:=List.take_of_length_le (by simp)
   have hdr:List.drop q.length (ints q)=[]:=by simp
   rw[List.length_cons] at g2 hl
   have t1:((0:Int)≤((q.length+1:Nat):Int))=True:=eq_true (by omega)
   have t2:(((q.length+1:Nat):Int)≤((q.length+1:Nat):Int))=True:=eq_true (Int.le_refl _)
   have hb1:(q.length+1)*8≤140737488355328:=by omega
   have hb2:q.length+1≤maxLen:=by rw[maxLen_eq];omega
   have hb3:(q.length+1+1)*8≤140737488355328:=by omega
   have hb4:q.length+1+1≤maxLen:=by rw[maxLen_eq];omega
   simp only[go_sem,g2,lt_false (Int.le_refl _),List.length_map,List.length_cons,ints_all,t1,t2,Int.toNat_natCast,hta,hdr,hb1,hb2,hb3,hb4,List.map_append,List.map_nil,List.map_cons,List.length_append,List.drop_zero,List.cons_append]
 ·rintro x rest m ⟨pre,g1,g2,g4⟩ K hK
  have hx:(ints l)[m]? = some (.int .i64 x):=by simp[g1,g2]
  have hlt:(m:Int)<l.length:=by rw[g1,g2];simp;omega
  have hll:m<l.length:=by rw[g1,g2];simp
  have w4:IntKind.i64.wrap ((m:Int)+1)=((m+1:Nat):Int):=by rw[wrap_id (by omega) (by omega)];simp
  rw[insU] at g4
  by_cases h1:x<n
  ·rw[if_neg (by omega),if_neg (by omega)] at g4
   simp only[go_sem,decide_eq_true hlt,decide_eq_true h1,Int.toNat_natCast,Int.natCast_nonneg,hx,List.length_map,w4]
   refine hK (m+1) _ ?_ ⟨pre++[x],by simp[g1],by simp[g2],by rw[←g4];simp⟩
   simp only[go_sem]
  ·by_cases h2:x=n
   ·subst h2
    rw[if_neg (by omega),if_pos rfl,←g1] at g4
    subst g4
    simp only[go_sem,decide_eq_true hlt,decide_eq_false h1,Int.toNat_natCast,Int.natCast_nonneg,hx,List.length_map]
   ·rw[if_pos (by omega)] at g4
    have hne:(x==n)=false:=by simp[h2]
    subst g4
    have hta:List.take m (ints l)=ints pre:=by simp[g1,g2]
    have hdr:List.drop m (ints l)=ints (x::rest):=by simp[g1,g2]
    have htl:List.take l.length (ints l)=ints l:=List.take_of_length_le (by simp)
    have t1:((0:Int)≤(m:Int))=True:=eq_true (by omega)
    have t2:((m:Int)≤(l.length:Int))=True:=eq_true (by omega)
    have t3:((l.length:Int)≤(l.length:Int))=True:=eq_true (Int.le_refl _)
    have hl2:l.length=pre.length+(rest.length+1):=by rw[g1];simp
    have hb1:pre.length*8≤140737488355328:=by omega
    have hb2:pre.length≤maxLen:=by rw[maxLen_eq];omega
    have hb3:(pre.length+1)*8≤140737488355328:=by omega
    have hb4:pre.length+1≤maxLen:=by rw[maxLen_eq];omega
    have hb5:(pre.length+1+(rest.length+1))*8≤140737488355328:=by omega
    have hb6:pre.length+1+(rest.length+1)≤maxLen:=by rw[maxLen_eq];omega
    simp only[go_sem,decide_eq_true hlt,decide_eq_false h1,hne,Int.toNat_natCast,Int.natCast_nonneg,hx,List.length_map,ints_all,t1,t2,t3,hta,hdr,htl,hb1,hb2,hb3,hb4,hb5,hb6,List.map_append,List.map_nil,List.map_cons,List.length_append,List.length_cons,List.drop_zero,List.append_assoc]
    rcases pre with _|⟨y,q⟩
    ·rw[List.length_nil,Nat.zero_add] at hb3 hb4 hb5 hb6
     simp only[go_sem,hx,ints_all,t1,t2,t3,hta,hdr,htl,Int.toNat_natCast,Int.natCast_nonneg,List.length_map,List.map_nil,List.nil_append,List.map_cons,one_le_maxLen,List.length_nil,Nat.zero_add,List.length_cons,List.cons_append,hb3,hb4,hb5,hb6]
     try (refine ⟨by kernel_rfl,?_⟩;try simp only[go_sem,hx,ints_all,t1,t2,t3,hta,hdr,htl,Int.toNat_natCast,Int.natCast_nonneg,List.length_map,List.nil_append,one_le_maxLen,List.length_cons,List.cons_append,hb5,hb6])
    ·rw[List.length_cons] at hb3 hb4 hb5 hb6
     simp only[go_sem,hx,ints_all,t1,t2,t3,hta,hdr,htl,Int.toNat_natCast,Int.natCast_nonneg,List.length_map,List.map_nil,List.map_cons,List.length_cons,hb3,hb4,hb5,hb6,List.cons_append,List.map_append,List.length_append,List.nil_append,List.append_assoc]
 ·simp only[go_sem,Int.natCast_zero]
theorem insU_len (n:Int):∀l:List Int,(insU n l).length≤l.length+1
 | []=>by rw[insU];simp
 |x::r=>by
  rw[insU]
  split
  ·simp
  ·split
   ·simp
   ·have:=insU_len n r
    rw[List.length_cons,List.length_cons];omega
theorem insAll_len (l:List Int):∀acc:List Int,(insAll acc l).length≤acc.length+l.length:=by
 induction l with
 |nil=>intro acc;simp[insAll]
 |cons x r ih=>
  intro acc
  have h1:=ih (insU x acc)
  have h2:=insU_len x acc
  simp only[insAll,List.foldl_cons,List.length_cons] at h1 ⊢
  omega
theorem insAll_asc (l acc:List Int) (h:acc.Pairwise (· < ·)):(insAll acc l).Pairwise (· < ·):=foldU_asc l acc h
theorem insAll_append (a b c:List Int):insAll a (b++c)=insAll (insAll a b) c:=List.foldl_append
theorem merge_spec (l m:List Int) (u:Int) (hl:l.length+m.length≤1000000000) (hm:∀x∈m,0≤x∧x≤1000000) (h1:0≤u) (h2:u≤1000000000) :
  Spec Tryz.prog 152 [pp (.slice (ints l)),pp (.slice (ints m)),ii u] [] (.slice (ints (insAll l (above m u)))) []:=by
 generalize hres:insAll l (above m u)=res
 refine wk (rv:=[.tmp 6]) ann152 29 Tryz.func152 ?_
 simp only[go_sem]
 refine aLoop_list (α:=Int) (β:=Nat×List Int) (fun rest b=>⟨[(7,ii b.1),(2,ii u),(1,pp (.slice (ints m))),(0,pp (.slice (ints b.2)))],[],[]⟩)
  (fun rest b=>∃pre,m=pre++rest∧b.1=pre.length∧b.2.length+rest.length≤1000000000∧insAll b.2 (above rest u)=res) ?_ ?_ m (0,l) _ ?_ ⟨[],rfl,rfl,hl,hres⟩
 ·rintro ⟨i,cur⟩ ⟨pre,g1,g2,g3,g4⟩ K
  simp only[List.append_nil] at g1 g2
  subst g1
  simp only[above,List.filterMap_nil,List.foldl_nil] at g4
  subst g4
  simp only[go_sem,g2,lt_false (Int.le_refl _),List.length_map]
 ·rintro x rest ⟨i,cur⟩ ⟨pre,g1,g2,g3,g4⟩ K hK
  simp only at g2 g3 g4
  have hx:(ints m)[i]? = some (.int .i64 x):=by simp[g1,g2]
  have hlt:(i:Int)<m.length:=by rw[g1,g2];simp;omega
  have hll:i<m.length:=by rw[g1,g2];simp
  have hml:m.length≤1000000000:=by omega
  have w4:IntKind.i64.wrap ((i:Int)+1)=((i+1:Nat):Int):=by rw[wrap_id (by omega) (by omega)];simp
  obtain ⟨x1,x2⟩:=hm x (by simp[g1])
  have w5:IntKind.i64.wrap (x - u)=x - u:=wrap_id (by omega) (by omega)
  rw[above_cons] at g4
  by_cases h:x≥u
  ·rw[if_pos h,insAll_append] at g4
   have hA:=tAdd_spec cur (x - u) (by omega)
   have hln:=insU_len (x - u) cur
   simp only[go_sem,decide_eq_true hlt,decide_eq_true h,Int.toNat_natCast,Int.natCast_nonneg,hx,List.length_map,w5]
   refine aCall_intro hA ?_
   simp only[go_sem,w4]
   refine hK (i+1,insU (x - u) cur) _ ?_ ⟨pre++[x],by simp[g1],by simp[g2],by simp only[List.length_cons] at g3;simp only;omega,g4⟩
   simp only[go_sem]
  ·rw[if_neg h,List.nil_append] at g4
   simp only[go_sem,decide_eq_true hlt,decide_eq_false h,Int.toNat_natCast,Int.natCast_nonneg,hx,List.length_map,w4]
   refine hK (i+1,cur) _ ?_ ⟨pre++[x],by simp[g1],by simp[g2],by simp only[List.length_cons] at g3;simp only;omega,g4⟩
   simp only[go_sem]
 ·simp only[go_sem,Int.natCast_zero]
theorem rfree_spec (c:ConT):∀(acc:List Int) (d:Int),formedF c=true→acc.Pairwise (· < ·)→0≤d→d+depthF c≤100000000→acc.length+wtF c≤900000000 →
  Spec Tryz.prog 180 [pp (.slice (ints acc)),pp (encC c),ii d] [] (.slice (ints (insAll acc (rfreeA c d)))) []:=by
 revert c
 refine ConT.ind1 fun op n s k names l ih=>?_
 intro acc d hf hasc h1 h2 h3
 rw[depthF] at h2
 rw[wtF] at h3
 have hn:=formed_n hf
 replace hn:0≤n∧n≤20000:=hn
 have hd:=deep_spec op n s k names l d h1 (by omega)
 by_cases hop:op=1
 ·subst hop
  have hl:=leaf_nil hf (.inl rfl)
  subst hl
  rw[rfreeA_var]
  by_cases hge:n≥d
  ·rw[if_pos hge]
   have hA:=rAdd_spec acc (n - d) (by omega)
   rw[addL_insU _ _ hasc] at hA
   have w1:IntKind.i64.wrap (n - d)=n - d:=wrap_id (by omega) (by omega)
   rw[show insAll acc [n - d]=insU (n - d) acc from rfl]
   refine wf (rv:=[.tmp 6]) ann180 41 Tryz.func180 fun hfit=>?_
   clear hfit ih hd
   simp only[go_sem,encC_mk,decide_eq_true hge,w1]
   refine aCall_intro hA ?_
   simp only[go_sem]
  ·rw[if_neg hge]
   rw[show insAll acc []=acc from rfl]
   refine wf (rv:=[.tmp 6]) ann180 41 Tryz.func180 fun hfit=>?_
   clear hfit ih hd
   simp only[go_sem,encC_mk,decide_eq_false hge,List.map_nil]
   refine ⟨1,?_⟩
   rw[aLoop_succ]
   simp only[go_sem,List.map_nil,List.length_nil,Int.natCast_zero,lt_false (Int.le_refl _)]
 ·have e1:(op==1)=false:=by simp[hop]
  have hfm:formedL l=true:=by rw[formedF,Bool.and_eq_true] at hf;exact hf.2
  rw[formedL_all] at hfm
  rw[rfreeA_node hf hop]
  have hdd:0≤deepF op d∧deepF op d≤d+1:=by rw[deepF];split<;>omega
  generalize deepF op d=dd at hd hdd
  generalize hres:insAll acc (rfreeAL l dd)=res
  have hwl:=wtL_len l
  refine wk (rv:=[.tmp 6]) ann180 41 Tryz.func180 ?_
  simp only[go_sem,encC_mk,e1]
  refine aLoop_list (α:=ConT) (β:=Nat×List Int) (fun rest b=>⟨[(7,ii b.1),(2,ii d),(4,pp (.ep (rawC op n s k names l) 0)),(0,pp (.slice (ints b.2)))],[],[]⟩)
   (fun rest b=>∃pre,l=pre++rest∧b.1=pre.length∧b.2.Pairwise (· < ·)∧b.2.length+wtL rest≤900000000∧insAll b.2 (rfreeAL rest dd)=res) ?_ ?_ l (0,acc) _ ?_ ⟨[],rfl,rfl,hasc,by simp only;omega,hres⟩
  ·rintro ⟨i,cur⟩ ⟨pre,g1,g2,g3,g5,g4⟩ K
   simp only[List.append_nil] at g1 g2
   subst g1
   rw[show rfreeAL [] dd=[] from by rw[rfreeAL,leavesL];rfl] at g4
   simp only[insAll,List.foldl_nil] at g4
   subst g4
   simp only[go_sem,g2,lt_false (Int.le_refl _),List.length_map]
  ·rintro x rest ⟨i,cur⟩ ⟨pre,g1,g2,g3,g5,g4⟩ K hK
   simp only at g2 g3 g4 g5
   have hx:(l.map encC)[i]? = some (encC x):=by simp[g1,g2]
   have hlt:(i:Int)<l.length:=by rw[g1,g2];simp;omega
   have hll:i<l.length:=by rw[g1,g2];simp
   have hm:x∈l:=by simp[g1]
   have hml:l.length≤900000000:=by omega
   have w4:IntKind.i64.wrap ((i:Int)+1)=((i+1:Nat):Int):=by rw[wrap_id (by omega) (by omega)];simp
   have hdx:=depthF_mem hm
   have hfx:=List.all_eq_true.1 hfm x hm
   rw[wtL] at g5
   have hI:=ih x hm cur dd hfx g3 (by omega) (by omega) (by omega)
   have hln:=rfreeA_len x dd hfx
   have hln2:=insAll_len (rfreeA x dd) cur
   rw[rfreeAL_cons,insAll_append] at g4
   have hasc2:=insAll_asc (rfreeA x dd) cur g3
   have hK':=fun s' hs=>hK (i+1,insAll cur (rfreeA x dd)) s' hs ⟨pre++[x],by simp[g1],by simp[g2],hasc2,by simp only;omega,g4⟩
   clear hK
   generalize insAll cur (rfreeA x dd)=cur2 at hI hK'
   simp only[go_sem,decide_eq_true hlt,Int.toNat_natCast,Int.natCast_nonneg,hx,List.length_map,encC_sz]
   refine aCall_intro hd ?_
   simp only[go_sem]
   refine aCall_intro hI ?_
   simp only[go_sem,w4]
   refine hK' _ ?_
   simp only[go_sem]
  ·simp only[go_sem,Int.natCast_zero]
theorem rFree_spec (c:ConT) (hf:formedF c=true) (h1:depthF c≤100000000) (h2:wtF c≤900000000):Spec Tryz.prog 153 [pp (encC c)] [] (.slice (ints (sortU (freeL c)))) []:=by
 have hF:=rfree_spec c [] 0 hf List.Pairwise.nil (by decide) (by omega) (by simpa using h2)
 rw[show insAll [] (rfreeA c 0)=sortU (freeL c) from by rw[rfreeA_0];rfl] at hF
 generalize sortU (freeL c)=res at hF
 simp only[ints,List.map_nil] at hF
 refine wk (rv:=[.tmp 2]) ann153 5 Tryz.func153 ?_
 simp only[go_sem,encC_sz]
 refine aCall_intro hF ?_
 simp only[go_sem]
end Go.Abs.Kon