/- The abstract layer, first part: values as trees, how they lie in memory, and what each operation does to them. -/
import Derived.Calls
import Derived.Orders
import Derived.Tactics
import Derived.Laws.AppendOwn
import Derived.Laws.Cells
import Derived.Lib.ItoaNum
import Derived.MapKept
set_option linter.unusedSimpArgs false
set_option linter.unusedVariables false
namespace Go.Abs
open Go
inductive PV where
 |bool (b:Bool)
 |int (k:IntKind) (n:Int)
 |str (s:ByteArray)
 |nilp
 |ep (x:PV) (off:Nat)
 |slice (es:List PV)
 |agg (cs:List PV)
 |tuple (vs:List PV)
 |fn (f:FuncId) (caps:List PV)
 |nilfn
 |nili
 |err
 |nilsl
 /-- A pointer at cells, the last of which points at a pair: of this pointer itself, and of something else; the pointer at the pair. -/
 |fx (ps:List PV) (e:PV)
 |fxc (ps:List PV) (e:PV)
 /-- A value in an interface. -/
 |ifc (t:TypeId) (p:PV)
 deriving Inhabited
inductive Sz where
 |one
 |agg (n:Nat)
 deriving DecidableEq
def Sz.size:Sz→Nat
 | .one=>1
 | .agg n=>n
def Sz.okV:Sz→Value→Bool
 | .one,v=>v.oneCell'
 | .agg n,.agg cs=>cs.size==n&&cs.toList.all Value.oneCell'
 | .agg _,_=>false
theorem Sz.size_of_ok {k:Sz}{u:Value}(h:k.okV u=true):u.cells.size=k.size:=by
 cases k with
 |one=>cases u<;>simp_all [Sz.okV,Value.oneCell',Value.cells,Sz.size]
 |agg n=>cases u<;>simp_all [Sz.okV,Value.cells,Sz.size]
theorem Sz.cells_one {k:Sz}{u:Value}(h:k.okV u=true):∀x∈u.cells.toList,x.oneCell'=true:=by
 cases k with
 |one=>cases u<;>simp_all [Sz.okV,Value.oneCell',Value.cells]
 |agg n=>
  cases u with
  |agg cs=>
   simp only[Sz.okV,Bool.and_eq_true,List.all_eq_true] at h
   exact h.2
  |_=>simp[Sz.okV] at h
def PV.hasSz:Sz→PV→Bool
 | .agg n,.agg cs=>cs.length==n
 | .agg _,_=>false
 | .one,.agg _=>false
 | .one,.tuple _=>false
 | .one,_=>true
def flatCells (vs:List Value):List Value:=vs.flatMap fun v=>v.cells.toList
abbrev Imm:=Nat→Nat→Option Value
def At (I:Imm) (b o:Nat) (u:Value):Prop:=∀(j:Nat) (v:Value),u.cells[j]? = some v→I b (o+j)=some v
def KnotAt (I:Imm) (b1 b2:Nat) (us:List Value) (u:Value):Prop:=
 (∀x∈us,x.oneCell'=true)∧u.oneCell'=true∧(∀(j:Nat) (z:Value),(us++[Value.pointer (some ⟨b2,0,none⟩)])[j]? = some z→I b1 j=some z)∧I b2 0=some (.pointer (some ⟨b1,0,none⟩))∧I b2 1=some u
mutual
def Rep (I:Imm):PV→Value→Prop
 | .bool x,v=>v=.bool x
 | .int k n,v=>v=.int k n
 | .str s,v=>v=.string s
 | .nilp,v=>v=.pointer none
 | .ep x off,v=>∃b o u k,v=.pointer (some ⟨b,o+off,none⟩)∧Rep I x u∧Sz.okV k u=true∧At I b o u
 | .slice es,v=>∃a len cap k,v=.slice a len cap∧len=es.length∧len≤cap∧cap≤maxLen ∧
   (es=[]∨∃b o,a=some ⟨b,o,none⟩∧RepE I k es b o)
 | .agg cs,v=>∃vs:Array Value,v=.agg vs∧RepL I cs vs.toList∧∀x∈vs.toList,x.oneCell'=true
 | .tuple ps,v=>∃vs:Array Value,v=.tuple vs∧RepL I ps vs.toList
 | .fn f caps,v=>∃cv:Array Value,v=.func (.func f) #[] cv∧RepL I caps cv.toList
 | .nilfn,v=>v=.nilFunc
 | .nili,v=>v=.nilIface
 | .err,v=>∃t u,v=.iface t u
 | .nilsl,v=>v=.slice none 0 0
 | .fx ps e,v=>∃b1 b2 us u,v=.pointer (some ⟨b1,0,none⟩)∧RepL I ps us∧Rep I e u∧KnotAt I b1 b2 us u
 | .fxc ps e,v=>∃b1 b2 us u,v=.pointer (some ⟨b2,0,none⟩)∧RepL I ps us∧Rep I e u∧KnotAt I b1 b2 us u
 | .ifc t p,v=>∃u,v=.iface t u∧Rep I p u
def RepE (I:Imm) (k:Sz):List PV→Nat→Nat→Prop
 | [],_,_=>True
 |e::es,b,o=>(∃u,Rep I e u∧Sz.okV k u=true∧At I b o u)∧RepE I k es b (o+k.size)
def RepL (I:Imm):List PV→List Value→Prop
 | [],vs=>vs=[]
 |p::ps,vs=>∃v rest,vs=v::rest∧Rep I p v∧RepL I ps rest
end
def Imm.le (I I':Imm):Prop:=∀b o v,I b o=some v→I' b o=some v
theorem Imm.le_refl (I:Imm):I.le I:=fun _ _ _ h=>h
theorem Imm.le_trans {I J K:Imm}(h:I.le J) (h':J.le K):I.le K:=fun b o v x=>h' b o v (h b o v x)
theorem KnotAt.mono {I I':Imm}(hI:I.le I') {b1 b2:Nat}{us:List Value}{u:Value}(h:KnotAt I b1 b2 us u):KnotAt I' b1 b2 us u:=
 ⟨h.1,h.2.1,fun j z hz=>hI _ _ _ (h.2.2.1 j z hz),hI _ _ _ h.2.2.2.1,hI _ _ _ h.2.2.2.2⟩
theorem At.mono {I I':Imm}(hI:I.le I') {b o:Nat}{u:Value}(h:At I b o u):At I' b o u:=fun j v hj=>hI _ _ _ (h j v hj)
mutual
theorem Rep.mono {I I':Imm}(hI:I.le I'):∀(p:PV) (v:Value),Rep I p v→Rep I' p v
 | .bool x,v,h=>by simpa [Rep] using h
 | .int k n,v,h=>by simpa [Rep] using h
 | .str s,v,h=>by simpa [Rep] using h
 | .nilp,v,h=>by simpa [Rep] using h
 | .ep x off,v,h=>by
  rw[Rep] at h ⊢
  obtain ⟨b,o,u,k,h1,h2,h3,h4⟩:=h
  exact ⟨b,o,u,k,h1,Rep.mono hI x u h2,h3,h4.mono hI⟩
 | .slice es,v,h=>by
  rw[Rep] at h ⊢
  obtain ⟨a,len,cap,k,h1,h2,h3,h4,h5⟩:=h
  refine ⟨a,len,cap,k,h1,h2,h3,h4,?_⟩
  rcases h5 with h5|⟨b,o,h5,h6⟩
  ·exact .inl h5
  ·exact .inr ⟨b,o,h5,RepE.mono hI k es b o h6⟩
 | .agg cs,v,h=>by
  rw[Rep] at h ⊢
  obtain ⟨vs,h1,h2,h3⟩:=h
  exact ⟨vs,h1,RepL.mono hI cs _ h2,h3⟩
 | .tuple ps,v,h=>by
  rw[Rep] at h ⊢
  obtain ⟨vs,h1,h2⟩:=h
  exact ⟨vs,h1,RepL.mono hI ps _ h2⟩
 | .fn f caps,v,h=>by
  rw[Rep] at h ⊢
  obtain ⟨vs,h1,h2⟩:=h
  exact ⟨vs,h1,RepL.mono hI caps _ h2⟩
 | .nilfn,v,h=>by simpa [Rep] using h
 | .nili,v,h=>by simpa [Rep] using h
 | .err,v,h=>by simpa [Rep] using h
 | .nilsl,v,h=>by simpa [Rep] using h
 | .fx ps e,v,h=>by
  rw[Rep] at h ⊢
  obtain ⟨b1,b2,us,u,h1,h2,h3,h4⟩:=h
  exact ⟨b1,b2,us,u,h1,RepL.mono hI ps us h2,Rep.mono hI e u h3,h4.mono hI⟩
 | .fxc ps e,v,h=>by
  rw[Rep] at h ⊢
  obtain ⟨b1,b2,us,u,h1,h2,h3,h4⟩:=h
  exact ⟨b1,b2,us,u,h1,RepL.mono hI ps us h2,Rep.mono hI e u h3,h4.mono hI⟩
 | .ifc t p,v,h=>by
  rw[Rep] at h ⊢
  obtain ⟨u,h1,h2⟩:=h
  exact ⟨u,h1,Rep.mono hI p u h2⟩
theorem RepE.mono {I I':Imm}(hI:I.le I') (k:Sz):∀(es:List PV) (b o:Nat),RepE I k es b o→RepE I' k es b o
 | [],_,_,_=>by simp[RepE]
 |e::es,b,o,h=>by
  rw[RepE] at h ⊢
  obtain ⟨⟨u,h1,h2,h3⟩,h4⟩:=h
  exact ⟨⟨u,Rep.mono hI e u h1,h2,h3.mono hI⟩,RepE.mono hI k es b _ h4⟩
theorem RepL.mono {I I':Imm}(hI:I.le I'):∀(ps:List PV) (vs:List Value),RepL I ps vs→RepL I' ps vs
 | [],vs,h=>by simpa [RepL] using h
 |p::ps,vs,h=>by
  rw[RepL] at h ⊢
  obtain ⟨v,rest,h1,h2,h3⟩:=h
  exact ⟨v,rest,h1,Rep.mono hI p v h2,RepL.mono hI ps rest h3⟩
end
theorem RepL.length {I:Imm}:∀{ps:List PV}{vs:List Value},RepL I ps vs→ps.length=vs.length
 | [],vs,h=>by rw[RepL] at h;simp[h]
 |p::ps,vs,h=>by
  rw[RepL] at h
  obtain ⟨v,rest,rfl,_,h3⟩:=h
  simp[RepL.length h3]
theorem RepL.get {I:Imm}:∀{ps:List PV}{vs:List Value},RepL I ps vs→∀(i:Nat) (p:PV),ps[i]? = some p→∃v,vs[i]? = some v∧Rep I p v
 | [],vs,h,i,p,hi=>by simp at hi
 |q::ps,vs,h,i,p,hi=>by
  rw[RepL] at h
  obtain ⟨v,rest,rfl,h2,h3⟩:=h
  cases i with
  |zero=>simp at hi;subst hi;exact ⟨v,rfl,h2⟩
  |succ i=>simpa using RepL.get h3 i p (by simpa using hi)
theorem RepL.append {I:Imm}:∀{ps qs:List PV}{vs us:List Value},RepL I ps vs→RepL I qs us→RepL I (ps++qs) (vs++us)
 | [],qs,vs,us,h,h'=>by rw[RepL] at h;subst h;simpa using h'
 |p::ps,qs,vs,us,h,h'=>by
  rw[RepL] at h
  obtain ⟨v,rest,rfl,h2,h3⟩:=h
  rw[List.cons_append,RepL]
  exact ⟨v,rest++us,rfl,h2,RepL.append h3 h'⟩
theorem RepL.drop {I:Imm}:∀{ps:List PV}{vs:List Value},RepL I ps vs→∀n,RepL I (ps.drop n) (vs.drop n)
 |ps,vs,h,0=>by simpa using h
 | [],vs,h,n+1=>by rw[RepL] at h;subst h;simp[RepL]
 |p::ps,vs,h,n+1=>by
  rw[RepL] at h
  obtain ⟨v,rest,rfl,h2,h3⟩:=h
  simpa using RepL.drop h3 n
theorem RepL.take {I:Imm}:∀{ps:List PV}{vs:List Value},RepL I ps vs→∀n,RepL I (ps.take n) (vs.take n)
 |ps,vs,h,0=>by simp[RepL]
 | [],vs,h,n+1=>by rw[RepL] at h;subst h;simp[RepL]
 |p::ps,vs,h,n+1=>by
  rw[RepL] at h
  obtain ⟨v,rest,rfl,h2,h3⟩:=h
  rw[List.take_succ_cons,List.take_succ_cons,RepL]
  exact ⟨v,_,rfl,h2,RepL.take h3 n⟩
theorem RepE.get {I:Imm}{k:Sz}:∀{es:List PV}{b o:Nat},RepE I k es b o→∀(i:Nat) (e:PV),es[i]? = some e →
  ∃u,Rep I e u∧Sz.okV k u=true∧At I b (o+i*k.size) u
 | [],_,_,_,i,e,hi=>by simp at hi
 |p::es,b,o,h,i,e,hi=>by
  rw[RepE] at h
  obtain ⟨h1,h2⟩:=h
  cases i with
  |zero=>simp at hi;subst hi;simpa using h1
  |succ i=>
   obtain ⟨u,h3,h4,h5⟩:=RepE.get h2 i e (by simpa using hi)
   refine ⟨u,h3,h4,?_⟩
   rw[Nat.add_mul,Nat.one_mul,Nat.add_comm (i*k.size),←Nat.add_assoc]
   exact h5
theorem RepE.append {I:Imm}{k:Sz}:∀{es fs:List PV}{b o:Nat},RepE I k es b o→RepE I k fs b (o+es.length*k.size)→RepE I k (es++fs) b o
 | [],fs,b,o,_,h'=>by simpa using h'
 |e::es,fs,b,o,h,h'=>by
  rw[RepE] at h
  rw[List.cons_append,RepE]
  refine ⟨h.1,RepE.append h.2 ?_⟩
  rw[List.length_cons,Nat.add_mul,Nat.one_mul,Nat.add_comm (es.length*k.size),←Nat.add_assoc] at h'
  exact h'
theorem RepE.drop {I:Imm}{k:Sz}:∀{es:List PV}{b o:Nat}(n:Nat),RepE I k es b o→n≤es.length→RepE I k (es.drop n) b (o+n*k.size)
 |es,b,o,0,h,_=>by simpa using h
 | [],b,o,n+1,h,hn=>by simp at hn
 |e::es,b,o,n+1,h,hn=>by
  rw[RepE] at h
  have:=RepE.drop n h.2 (by simpa using hn)
  rw[Nat.add_mul,Nat.one_mul,Nat.add_comm (n*k.size),←Nat.add_assoc]
  simpa using this
theorem RepE.take {I:Imm}{k:Sz}:∀{es:List PV}{b o:Nat}(n:Nat),RepE I k es b o→RepE I k (es.take n) b o
 |es,b,o,0,h=>by simp[RepE]
 | [],b,o,n+1,h=>by simp[RepE]
 |e::es,b,o,n+1,h=>by
  rw[RepE] at h
  rw[List.take_succ_cons,RepE]
  exact ⟨h.1,RepE.take n h.2⟩
theorem hasSz_ok {I:Imm}{k:Sz}{p:PV}{u:Value}(h:Rep I p u) (hk:p.hasSz k=true):k.okV u=true:=by
 cases p<;>cases k<;>simp[PV.hasSz] at hk<;>rw[Rep] at h
 case bool=>subst h;rfl
 case int=>subst h;rfl
 case str=>subst h;rfl
 case nilp=>subst h;rfl
 case ep=>obtain ⟨b,o,u',k',rfl,_⟩:=h;rfl
 case slice=>obtain ⟨a,len,cap,k',rfl,_⟩:=h;rfl
 case agg cs n=>
  obtain ⟨vs,rfl,h2,h3⟩:=h
  have:=h2.length
  simp only[Sz.okV,Bool.and_eq_true,beq_iff_eq,List.all_eq_true]
  exact ⟨by rw[←hk,this,Array.length_toList],h3⟩
 case fn=>obtain ⟨vs,rfl,_⟩:=h;rfl
 case nilfn=>subst h;rfl
 case nili=>subst h;rfl
 case err=>obtain ⟨t,u',rfl⟩:=h;rfl
 case nilsl=>subst h;rfl
 case fx=>obtain ⟨b1,b2,us,u',rfl,_⟩:=h;rfl
 case fxc=>obtain ⟨b1,b2,us,u',rfl,_⟩:=h;rfl
 case ifc=>obtain ⟨u',rfl,_⟩:=h;rfl
theorem ok_hasSz {I:Imm}{k:Sz}{p:PV}{u:Value}(h:Rep I p u) (hk:k.okV u=true):p.hasSz k=true:=by
 cases p<;>rw[Rep] at h
 case bool=>subst h;cases k<;>simp_all [Sz.okV,PV.hasSz]
 case int=>subst h;cases k<;>simp_all [Sz.okV,PV.hasSz]
 case str=>subst h;cases k<;>simp_all [Sz.okV,PV.hasSz]
 case nilp=>subst h;cases k<;>simp_all [Sz.okV,PV.hasSz]
 case ep=>obtain ⟨b,o,u',k',rfl,_⟩:=h;cases k<;>simp_all [Sz.okV,PV.hasSz]
 case slice=>obtain ⟨a,len,cap,k',rfl,_⟩:=h;cases k<;>simp_all [Sz.okV,PV.hasSz]
 case agg cs=>
  obtain ⟨vs,rfl,h2,h3⟩:=h
  have:=h2.length
  cases k<;>simp_all [Sz.okV,PV.hasSz,Value.oneCell']
 case tuple=>obtain ⟨vs,rfl,_⟩:=h;cases k<;>simp_all [Sz.okV,Value.oneCell']
 case fn=>obtain ⟨vs,rfl,_⟩:=h;cases k<;>simp_all [Sz.okV,PV.hasSz]
 case nilfn=>subst h;cases k<;>simp_all [Sz.okV,PV.hasSz]
 case nili=>subst h;cases k<;>simp_all [Sz.okV,PV.hasSz]
 case err=>obtain ⟨t,u',rfl⟩:=h;cases k<;>simp_all [Sz.okV,PV.hasSz]
 case nilsl=>subst h;cases k<;>simp_all [Sz.okV,PV.hasSz]
 case fx=>obtain ⟨b1,b2,us,u',rfl,_⟩:=h;cases k<;>simp_all [Sz.okV,PV.hasSz]
 case fxc=>obtain ⟨b1,b2,us,u',rfl,_⟩:=h;cases k<;>simp_all [Sz.okV,PV.hasSz]
 case ifc=>obtain ⟨u',rfl,_⟩:=h;cases k<;>simp_all [Sz.okV,PV.hasSz]
def PV.unfx:PV→PV
 | .fx ps e=>.ep (.agg (ps++[.fxc ps e])) 0
 | .fxc ps e=>.ep (.agg [.fx ps e,e]) 0
 | .bool b=>.bool b
 | .int k n=>.int k n
 | .str s=>.str s
 | .nilp=>.nilp
 | .ep x off=>.ep x off
 | .slice es=>.slice es
 | .agg cs=>.agg cs
 | .tuple vs=>.tuple vs
 | .fn f caps=>.fn f caps
 | .nilfn=>.nilfn
 | .nili=>.nili
 | .err=>.err
 | .nilsl=>.nilsl
 | .ifc t p=>.ifc t p
theorem unfx_rep {I:Imm}{p:PV}{v:Value}(h:Rep I p v):Rep I p.unfx v:=by
 cases p with
 |fx ps e=>
  have h0:=h
  rw[Rep] at h
  obtain ⟨b1,b2,us,u,rfl,h2,h3,h4⟩:=h
  rw[PV.unfx,Rep]
  refine ⟨b1,0,.agg (us++[Value.pointer (some ⟨b2,0,none⟩)]).toArray,.agg (us.length+1),rfl,?_,?_,fun j z hz=>?_⟩
  ·rw[Rep]
   refine ⟨_,rfl,RepL.append h2 ?_,fun x hx=>?_⟩
   ·rw[RepL]
    refine ⟨_,[],rfl,?_,by rw[RepL]⟩
    rw[Rep]
    exact ⟨b1,b2,us,u,rfl,h2,h3,h4⟩
   ·have hx':x∈us++[Value.pointer (some ⟨b2,0,none⟩)]:=hx
    rcases List.mem_append.1 hx' with h5|h5
    ·exact h4.1 x h5
    ·rw[List.mem_singleton] at h5;subst h5;rfl
  ·simp only[Sz.okV,Bool.and_eq_true,beq_iff_eq,List.all_eq_true]
   refine ⟨by simp,fun x hx=>?_⟩
   have hx':x∈us++[Value.pointer (some ⟨b2,0,none⟩)]:=hx
   rcases List.mem_append.1 hx' with h5|h5
   ·exact h4.1 x h5
   ·rw[List.mem_singleton] at h5;subst h5;rfl
  ·rw[Nat.zero_add]
   exact h4.2.2.1 j z (by simpa [Value.cells] using hz)
 |fxc ps e=>
  rw[Rep] at h
  obtain ⟨b1,b2,us,u,rfl,h2,h3,h4⟩:=h
  rw[PV.unfx,Rep]
  refine ⟨b2,0,.agg #[.pointer (some ⟨b1,0,none⟩),u],.agg 2,rfl,?_,?_,fun j z hz=>?_⟩
  ·rw[Rep]
   refine ⟨_,rfl,?_,fun x hx=>?_⟩
   ·rw[RepL]
    refine ⟨_,[u],rfl,?_,?_⟩
    ·rw[Rep]
     exact ⟨b1,b2,us,u,rfl,h2,h3,h4⟩
    ·rw[RepL]
     exact ⟨u,[],rfl,h3,by rw[RepL]⟩
   ·simp at hx
    rcases hx with rfl|rfl
    ·rfl
    ·exact h4.2.1
  ·simp only[Sz.okV,Bool.and_eq_true,beq_iff_eq,List.all_eq_true]
   refine ⟨rfl,fun x hx=>?_⟩
   simp at hx
   rcases hx with rfl|rfl
   ·rfl
   ·exact h4.2.1
  ·rw[Nat.zero_add]
   match j,hz with
   | 0,hz=>simp[Value.cells] at hz;subst hz;exact h4.2.2.2.1
   | 1,hz=>simp[Value.cells] at hz;subst hz;exact h4.2.2.2.2
   |j+2,hz=>simp[Value.cells] at hz
 |_=>exact h
theorem okV_unique {k k':Sz}{u:Value}(h:k.okV u=true) (h':k'.okV u=true):k=k':=by
 cases k<;>cases k'<;>cases u<;>simp_all [Sz.okV,Value.oneCell']
/-! Abstract slots -/
inductive Nm where
 |loc (d:Nat)
 |ref (j:Nat)
 deriving DecidableEq
inductive Cap where
 |pv (p:PV)
 |ptr (n:Nm) (off:Nat)
inductive MapC where
 |set (ks:List Int)
 |nums (ks:List (Int×Int))
inductive SC where
 |pv (p:PV)
 |ptr (n:Nm) (off:Nat)
 |own (t:Nat) (k:Sz) (es:List PV)
 |ex (t:Nat) (k:Sz) (es:List PV)
 |nilS
 |fn (f:FuncId) (caps:List Cap)
 |any
 |mp (n:Nm)
 |mpc (ks:MapC)
 /-- A slice of so many elements that is the whole of a row; a row's elements, which may be written. -/
 |rw (n:Nm) (m:Nat)
 |rwc (k:Sz) (es:List PV)
 /-- A slice of one element, which a box holds. -/
 |sl (n:Nm)
inductive SV where
 |one (c:SC)
 |agg (cs:List SC)
structure Box where
 k:Sz
 c:SV
structure Tk where
 hdr:Value
 k:Sz
 g:Option Nat
 x:Option (List Value)
structure Gh where
 I:Imm
 blk:Nm→Option Nat
 tok:Nat→Option Tk
 /-- How many elements a row has room for. -/
 cap:Nm→Nat
def RepCaps (G:Gh):List Cap→List Value→Prop
 | [],vs=>vs=[]
 | .pv p::cs,vs=>∃v rest,vs=v::rest∧Rep G.I p v∧RepCaps G cs rest
 | .ptr n off::cs,vs=>∃b rest,vs=.pointer (some ⟨b,off,none⟩)::rest∧G.blk n=some b∧RepCaps G cs rest
def ExAt (I:Imm) (tk:Tk) (k:Sz) (es:List PV) (v:Value):Prop:=
 tk.hdr=v∧tk.k=k∧∃g cap vs,tk.g=some g∧v=.slice (some ⟨g,0,none⟩) es.length cap∧RepL I es vs∧(∀x∈vs,k.okV x=true)∧tk.x=some (flatCells vs)
theorem ExAt.mono {I I':Imm}(hI:I.le I') {tk:Tk}{k:Sz}{es:List PV}{v:Value}(h:ExAt I tk k es v):ExAt I' tk k es v:=by
 obtain ⟨h1,h2,g,cap,vs,h3,h4,h5,h6,h7⟩:=h
 exact ⟨h1,h2,g,cap,vs,h3,h4,RepL.mono hI _ _ h5,h6,h7⟩
def RepSC (G:Gh) (used:List Nat):SC→Value→Prop
 | .pv p,v=>Rep G.I p v
 | .ptr n off,v=>∃b,G.blk n=some b∧v=.pointer (some ⟨b,off,none⟩)
 | .own t k es,v=>Rep G.I (.slice es) v∧(∀e∈es,e.hasSz k=true)∧(t∉used→∃tk,G.tok t=some tk∧tk.hdr=v∧tk.k=k∧tk.x=none)
 | .ex t k es,v=>(∃a cap,v=.slice a es.length cap)∧(∀e∈es,e.hasSz k=true)∧(t∉used→∃tk,G.tok t=some tk∧ExAt G.I tk k es v)
 | .nilS,v=>v=.slice none 0 0
 | .fn f caps,v=>∃cv:Array Value,v=.func (.func f) #[] cv∧RepCaps G caps cv.toList
 | .any,_=>True
 | .mp n,v=>∃b,G.blk n=some b∧v=.map (some b)
 | .mpc _,_=>False
 | .rw n m,v=>∃b cap,G.blk n=some b∧v=.slice (some ⟨b,0,none⟩) m cap∧m≤cap∧cap≤maxLen∧G.cap n=cap
 | .rwc _ _,_=>False
 | .sl n,v=>∃b,G.blk n=some b∧v=.slice (some ⟨b,0,none⟩) 1 1
def RepSCs (G:Gh) (used:List Nat):List SC→List Value→Prop
 | [],vs=>vs=[]
 |c::cs,vs=>∃v rest,vs=v::rest∧RepSC G used c v∧RepSCs G used cs rest
def RepSV (G:Gh) (used:List Nat):SV→Value→Prop
 | .one c,v=>RepSC G used c v
 | .agg cs,v=>∃vs:Array Value,v=.agg vs∧RepSCs G used cs vs.toList∧∀x∈vs.toList,x.oneCell'=true
theorem RepSCs.length {G:Gh}{used:List Nat}:∀{cs:List SC}{vs:List Value},RepSCs G used cs vs→cs.length=vs.length
 | [],vs,h=>by simp only[RepSCs] at h;simp[h]
 |c::cs,vs,h=>by
  simp only[RepSCs] at h
  obtain ⟨v,rest,rfl,_,h3⟩:=h
  simp[RepSCs.length h3]
theorem RepSCs.get {G:Gh}{used:List Nat}:∀{cs:List SC}{vs:List Value},RepSCs G used cs vs→∀(i:Nat) (c:SC),cs[i]? = some c→∃v,vs[i]? = some v∧RepSC G used c v
 | [],vs,h,i,c,hi=>by simp at hi
 |d::cs,vs,h,i,c,hi=>by
  simp only[RepSCs] at h
  obtain ⟨v,rest,rfl,h2,h3⟩:=h
  cases i with
  |zero=>simp at hi;subst hi;exact ⟨v,rfl,h2⟩
  |succ i=>simpa using RepSCs.get h3 i c (by simpa using hi)
theorem RepSCs.append {G:Gh}{used:List Nat}:∀{ps qs:List SC}{vs us:List Value},RepSCs G used ps vs→RepSCs G used qs us→RepSCs G used (ps++qs) (vs++us)
 | [],qs,vs,us,h,h'=>by simp only[RepSCs] at h;subst h;simpa using h'
 |p::ps,qs,vs,us,h,h'=>by
  simp only[RepSCs] at h
  obtain ⟨v,rest,rfl,h2,h3⟩:=h
  simp only[List.cons_append,RepSCs]
  exact ⟨v,rest++us,rfl,h2,RepSCs.append h3 h'⟩
theorem RepSCs.drop {G:Gh}{used:List Nat}:∀{ps:List SC}{vs:List Value},RepSCs G used ps vs→∀n,RepSCs G used (ps.drop n) (vs.drop n)
 |ps,vs,h,0=>by simpa using h
 | [],vs,h,n+1=>by simp only[RepSCs] at h;subst h;simp[RepSCs]
 |p::ps,vs,h,n+1=>by
  simp only[RepSCs] at h
  obtain ⟨v,rest,rfl,h2,h3⟩:=h
  simpa using RepSCs.drop h3 n
theorem RepSCs.take {G:Gh}{used:List Nat}:∀{ps:List SC}{vs:List Value},RepSCs G used ps vs→∀n,RepSCs G used (ps.take n) (vs.take n)
 |ps,vs,h,0=>by simp[RepSCs]
 | [],vs,h,n+1=>by simp only[RepSCs] at h;subst h;simp[RepSCs]
 |p::ps,vs,h,n+1=>by
  simp only[RepSCs] at h
  obtain ⟨v,rest,rfl,h2,h3⟩:=h
  simp only[List.take_succ_cons,RepSCs]
  exact ⟨v,_,rfl,h2,RepSCs.take h3 n⟩
theorem RepSCs.of_pvs {G:Gh}{used:List Nat}:∀{ps:List PV}{vs:List Value},RepL G.I ps vs→RepSCs G used (ps.map .pv) vs
 | [],vs,h=>by rw[RepL] at h;simpa [RepSCs] using h
 |p::ps,vs,h=>by
  rw[RepL] at h
  obtain ⟨v,rest,rfl,h2,h3⟩:=h
  simp only[List.map_cons,RepSCs]
  exact ⟨v,rest,rfl,h2,RepSCs.of_pvs h3⟩
/-! From abstract cells to pure values -/
def capsPV? : List Cap→Option (List PV)
 | []=>some []
 | .pv p::cs=>(capsPV? cs).map (p :: ·)
 | .ptr _ _::_=>none
def SC.pv? : SC→Option PV
 | .pv p=>some p
 | .own _ _ es=>some (.slice es)
 | .ex _ _ _=>none
 | .nilS=>some (.slice [])
 | .fn f caps=>(capsPV? caps).map (.fn f)
 | .ptr _ _=>none
 | .any=>none
 | .mp _=>none
 | .mpc _=>none
 | .rw _ _=>none
 | .rwc _ _=>none
 | .sl _=>none
def pvs? : List SC→Option (List PV)
 | []=>some []
 |c::cs=>match c.pv? with
  |some p=>(pvs? cs).map (p :: ·)
  |none=>none
def SV.pv? : SV→Option PV
 | .one c=>c.pv?
 | .agg cs=>(pvs? cs).map .agg
theorem capsPV_rep {G:Gh}:∀{cs:List Cap}{ps:List PV}{vs:List Value},RepCaps G cs vs→capsPV? cs=some ps→RepL G.I ps vs
 | [],ps,vs,h,hp=>by
  simp[capsPV?] at hp;subst hp
  rw[RepL];simpa [RepCaps] using h
 | .pv p::cs,ps,vs,h,hp=>by
  simp only[capsPV?,Option.map_eq_some_iff] at hp
  obtain ⟨qs,hq,rfl⟩:=hp
  simp only[RepCaps] at h
  obtain ⟨v,rest,rfl,h2,h3⟩:=h
  rw[RepL]
  exact ⟨v,rest,rfl,h2,capsPV_rep h3 hq⟩
 | .ptr n off::cs,ps,vs,h,hp=>by simp[capsPV?] at hp
theorem SC.pv_rep {G:Gh}{used:List Nat}{c:SC}{p:PV}{v:Value}(h:RepSC G used c v) (hp:c.pv? = some p):Rep G.I p v:=by
 cases c with
 |pv q=>simp[SC.pv?] at hp;subst hp;exact h
 |ptr n off=>simp[SC.pv?] at hp
 |own t k es=>simp[SC.pv?] at hp;subst hp;exact h.1
 |ex t k es=>simp[SC.pv?] at hp
 |nilS=>
  simp[SC.pv?] at hp;subst hp
  simp only[RepSC] at h
  rw[Rep]
  exact ⟨none,0,0,.one,h,rfl,Nat.le_refl _,Nat.zero_le _,.inl rfl⟩
 |fn f caps=>
  simp only[SC.pv?,Option.map_eq_some_iff] at hp
  obtain ⟨ps,hq,rfl⟩:=hp
  simp only[RepSC] at h
  obtain ⟨cv,rfl,h2⟩:=h
  rw[Rep]
  exact ⟨cv,rfl,capsPV_rep h2 hq⟩
 |any=>simp[SC.pv?] at hp
 |mp n=>simp[SC.pv?] at hp
 |mpc ks=>simp[SC.pv?] at hp
 |rw n m=>simp[SC.pv?] at hp
 |rwc k es=>simp[SC.pv?] at hp
 |sl n=>simp[SC.pv?] at hp
theorem pvs_rep {G:Gh}{used:List Nat}:∀{cs:List SC}{ps:List PV}{vs:List Value},RepSCs G used cs vs→pvs? cs=some ps→RepL G.I ps vs
 | [],ps,vs,h,hp=>by
  simp[pvs?] at hp;subst hp
  rw[RepL];simpa [RepSCs] using h
 |c::cs,ps,vs,h,hp=>by
  simp only[pvs?] at hp
  simp only[RepSCs] at h
  obtain ⟨v,rest,rfl,h2,h3⟩:=h
  cases hc:c.pv? with
  |none=>simp[hc] at hp
  |some p=>
   simp only[hc,Option.map_eq_some_iff] at hp
   obtain ⟨qs,hq,rfl⟩:=hp
   rw[RepL]
   exact ⟨v,rest,rfl,SC.pv_rep h2 hc,pvs_rep h3 hq⟩
theorem SV.pv_rep {G:Gh}{used:List Nat}{s:SV}{p:PV}{v:Value}(h:RepSV G used s v) (hp:s.pv? = some p):Rep G.I p v:=by
 cases s with
 |one c=>exact SC.pv_rep h hp
 |agg cs=>
  simp only[SV.pv?,Option.map_eq_some_iff] at hp
  obtain ⟨ps,hq,rfl⟩:=hp
  obtain ⟨vs,rfl,h2,h3⟩:=h
  rw[Rep]
  exact ⟨vs,rfl,pvs_rep h2 hq,h3⟩
end Go.Abs
namespace Go.Abs
open Go
/-! The program's types, in short -/
def szOf (P:Program) (t:TypeId):Option Sz:=
 match P.underlying t,P.info? t with
 |some (.struct _),some i=>some (.agg i.size)
 |some (.array _ _),some _=>none
 |some _,some i=>if i.size=1 then some .one else none
 |_,_=>none
def elemOf (P:Program) (t:TypeId):Option TypeId:=
 match P.underlying t with
 |some (.slice e)=>some e
 |_=>none
def fieldOff (P:Program) (t:TypeId) (f:Nat):Option Nat:=
 match P.underlying t with
 |some (.struct fs)=>match fs[f]? with
  |some fd=>match P.info? fd.type with
   |some i=>if i.size=0 then none else some fd.offset
   |none=>none
  |none=>none
 |_=>none
def fieldSz (P:Program) (t:TypeId) (f:Nat):Option Sz:=
 match P.underlying t with
 |some (.struct fs)=>match fs[f]? with
  |some fd=>szOf P fd.type
  |none=>none
 |_=>none
def placesL (P:Program):List Field→Option (List (Nat×Sz))
 | []=>some []
 |f::r=>match szOf P f.type,placesL P r with
  |some k,some l=>some ((f.offset,k)::l)
  |_,_=>none
def placesOf (P:Program) (t:TypeId):Option (List (Nat×Sz)):=
 match P.underlying t with
 |some (.struct fs)=>placesL P fs.toList
 |_=>none
def zeroSC:Value→SC
 | .bool b=>.pv (.bool b)
 | .int k n=>.pv (.int k n)
 | .string s=>.pv (.str s)
 | .pointer none=>.pv .nilp
 | .slice none 0 0=>.nilS
 | .nilFunc=>.pv .nilfn
 | .nilIface=>.pv .nili
 |_=>.any
def zeroSV:Value→SV
 | .agg vs=>.agg (vs.toList.map zeroSC)
 |v=>.one (zeroSC v)
def zeroOf (P:Program) (t:TypeId):Option (Sz×SV):=
 match szOf P t,P.info? t with
 |some k,some i=>match i.zero with
  |some z=>if k.okV z then some (k,zeroSV z) else none
  |none=>none
 |_,_=>none
def elemSz (P:Program) (t:TypeId):Option (Sz×Nat):=
 match elemOf P t with
 |some e=>match zeroOf P e,P.info? e with
  |some (k,_),some i=>if 0<i.size then some (k,i.bytes) else none
  |_,_=>none
 |none=>none
/-! The state -/
structure AS where
 tmps:List (Nat×SV)
 boxes:List (Nm×Box)
 used:List Nat
def getT:List (Nat×SV)→Nat→SV
 | [],_=>.one .any
 | (t,v)::r,x=>if t=x then v else getT r x
def setT:List (Nat×SV)→Nat→SV→List (Nat×SV)
 | [],x,v=>[(x,v)]
 | (t,u)::r,x,v=>if t=x then (t,v)::r else (t,u)::setT r x v
def getB:List (Nm×Box)→Nm→Option Box
 | [],_=>none
 | (n,b)::r,x=>if n=x then some b else getB r x
def setB:List (Nm×Box)→Nm→Box→List (Nm×Box)
 | [],x,b=>[(x,b)]
 | (n,c)::r,x,b=>if n=x then (n,b)::r else (n,c)::setB r x b
theorem getT_setT (l:List (Nat×SV)) (x y:Nat) (v:SV):getT (setT l x v) y=if x=y then v else getT l y:=by
 induction l with
 |nil=>simp only[setT,getT]
 |cons p r ih=>
  obtain ⟨t,u⟩:=p
  simp only[setT]
  by_cases h:t=x
  ·simp only[h,if_true,getT]
   by_cases h2:x=y<;>simp[h2]
  ·simp only[h,if_false,getT,ih]
   by_cases h2:t=y
   ·have:¬x=y:=fun e=>h (h2.trans e.symm)
    simp[h2,this]
   ·simp[h2]
theorem getB_setB (l:List (Nm×Box)) (x y:Nm) (v:Box):getB (setB l x v) y=if x=y then some v else getB l y:=by
 induction l with
 |nil=>simp only[setB,getB]
 |cons p r ih=>
  obtain ⟨t,u⟩:=p
  simp only[setB]
  by_cases h:t=x
  ·simp only[h,if_true,getB]
   by_cases h2:x=y<;>simp[h2]
  ·simp only[h,if_false,getB,ih]
   by_cases h2:t=y
   ·have:¬x=y:=fun e=>h (h2.trans e.symm)
    simp[h2,this]
   ·simp[h2]
def constSV:Value→SV
 | .agg vs=>if vs.toList.all Value.oneCell' then .agg (vs.toList.map zeroSC) else .one .any
 |v=>.one (zeroSC v)
def AS.ev (s:AS):Operand→SV
 | .tmp t=>getT s.tmps t
 | .const v=>constSV v
 | .global _=>.one .any
 | .func f=>.one (.pv (.fn f []))
structure Ann where
 imm:List Nat
 frz:List Nat
 live:List (Nat×List Nat)
 head:List (Nat×List Nat)
/-! Reading and writing parts of values -/
def SV.hasSz:Sz→SV→Bool
 | .one,.one (.pv p)=>p.hasSz .one
 | .one,.one .any=>false
 | .one,.one _=>true
 | .one,.agg _=>false
 | .agg n,.agg cs=>cs.length==n
 | .agg n,.one (.pv p)=>p.hasSz (.agg n)
 | .agg _,.one _=>false
def loadPV (x:PV) (off:Nat) (kt:Sz):Option SV:=
 if off=0∧x.hasSz kt=true then some (.one (.pv x)) else
 match x,kt with
 | .agg cs,.one=>match cs[off]? with
  |some p=>some (.one (.pv p))
  |none=>none
 | .agg cs,.agg n=>if off+n≤cs.length then some (.one (.pv (.agg ((cs.drop off).take n)))) else none
 |_,_=>none
def SC.isMp:SC→Bool
 | .pv _=>false
 | .ptr _ _=>false
 | .own _ _ _=>false
 | .ex _ _ _=>false
 | .nilS=>false
 | .fn _ _=>false
 | .any=>false
 | .mp _=>false
 | .mpc _=>true
 | .rw _ _=>false
 | .rwc _ _=>true
 | .sl _=>false
def SV.isMp:SV→Bool
 | .one c=>c.isMp
 | .agg _=>false
def loadSV (k:Sz) (c:SV) (off:Nat) (kt:Sz):Option SV:=
 if off=0∧kt=k then some c else
 match c,kt with
 | .agg cs,.one=>match cs[off]? with
  |some x=>some (.one x)
  |none=>none
 | .agg cs,.agg n=>if off+n≤cs.length then some (.agg ((cs.drop off).take n)) else none
 | .one (.pv p),_=>loadPV p off kt
 |_,_=>none
def SV.cells? : SV→Option (List SC)
 | .agg cs=>some cs
 | .one (.pv (.agg ps))=>some (ps.map .pv)
 |_=>none
def SV.cellsAt? (k:Sz) (x:SV):Option (List SC):=
 match k,x with
 | .one,.one (.pv p)=>if p.hasSz .one then some [.pv p] else none
 | .one,.one .any=>none
 | .one,.one c=>some [c]
 | .one,.agg _=>none
 | .agg n,x=>match x.cells? with
  |some cs=>if cs.length=n then some cs else none
  |none=>none
def storeSV (k:Sz) (c:SV) (off:Nat) (kt:Sz) (x:SV):Option SV:=
 if off=0∧kt=k then (if x.hasSz k then some x else none) else
 match c.cells?,x.cellsAt? kt with
 |some cs,some xs=>if off+xs.length≤cs.length then some (.agg (cs.take off++xs++cs.drop (off+xs.length))) else none
 |_,_=>none
def rowOf? : SV→Option (Sz×List PV)
 | .one (.rwc k es)=>some (k,es)
 |_=>none
def rwOf? : SV→Option (Nm×Nat)
 | .one (.rw n m)=>some (n,m)
 |_=>none
def rowIx (off s:Nat):Option Nat:=if off % s=0 then some (off / s) else none
theorem rowIx_mul (i:Nat) {s:Nat}(h:0<s):rowIx (i*s) s=some i:=by
 rw[rowIx,if_pos (Nat.mul_mod_left i s),Nat.mul_div_cancel i h]
theorem rowIx_spec {off s i:Nat}(h:rowIx off s=some i) (hs:0<s):off=i*s:=by
 unfold rowIx at h
 split at h
 ·rename_i h0
  cases h
  exact (Nat.div_mul_cancel (Nat.dvd_of_mod_eq_zero h0)).symm
 ·cases h
/-! Operators -/
def cmpOp (op:BinOp) (a b:Int):Option Bool:=
 match op with
 | .eql=>some (a==b)
 | .neq=>some (a != b)
 | .lss=>some (a<b)
 | .leq=>some (a≤b)
 | .gtr=>some (a>b)
 | .geq=>some (a≥b)
 |_=>none
def arithOp (op:BinOp) (k:IntKind) (a b:Int):Option Int:=
 match op with
 | .add=>some (k.wrap (a+b))
 | .sub=>some (k.wrap (a - b))
 | .mul=>some (k.wrap (a*b))
 | .quo=>if b=0 then none else some (k.wrap (a.tdiv b))
 | .rem=>if b=0 then none else some (a.tmod b)
 |_=>none
def strOp (op:BinOp) (a b:ByteArray):Option PV:=
 match op with
 | .add=>if a.size+b.size≤9223372036854775807 then some (.str (a++b)) else none
 | .eql=>some (.bool (a.toList==b.toList))
 | .neq=>some (.bool (!(a.toList==b.toList)))
 | .lss=>some (.bool (Op.bytesLess a.toList b.toList))
 | .leq=>some (.bool (Op.bytesLess a.toList b.toList||a.toList==b.toList))
 | .gtr=>some (.bool (!(Op.bytesLess a.toList b.toList||a.toList==b.toList)))
 | .geq=>some (.bool (!Op.bytesLess a.toList b.toList))
 |_=>none
inductive EqT where
 |bool|iface|ptr|str|other|none
 deriving DecidableEq
def eqTOf (P:Program) (t:TypeId):EqT:=
 match P.underlying t with
 |some .bool=>.bool
 |some (.interface _)=>.iface
 |some (.pointer _)=>.ptr
 |some .string=>.str
 |some _=>.other
 |none=>.none
def eqPV (T:EqT) (cst:Bool) (a b:PV):Option Bool:=
 match T,a,b with
 | .bool,.bool x,.bool y=>some (x==y)
 | .iface,.nili,.nili=>if cst then some true else none
 | .iface,.nili,.err=>some false
 | .iface,.err,.nili=>some false
 | .ptr,.nilp,.nilp=>some true
 | .ptr,.ep _ _,.nilp=>some false
 | .ptr,.nilp,.ep _ _=>some false
 |_,_,_=>none
def isCst:Operand→Bool
 | .const _=>true
 |_=>false
def binPV (T:EqT) (cst:Bool) (op:BinOp) (x y:PV):Option PV:=
 match x,y with
 | .int k a,.int k' b=>if k=k' then
     (match arithOp op k a b with
      |some n=>some (.int k n)
      |none=>match cmpOp op a b with
        |some r=>some (.bool r)
        |none=>none)
     else none
 | .str a,.str b=>strOp op a b
 |a,b=>match op with
   | .eql=>(eqPV T cst a b).map .bool
   | .neq=>(eqPV T cst a b).map fun r=>.bool (!r)
   |_=>none
def isNilC:Operand→Bool
 | .const (.slice none 0 0)=>true
 |_=>false
def nilCmp (P:Program) (op:BinOp) (t:TypeId) (x:SV) (y:Operand):Option Bool:=
 if isNilC y=true then (match op,x,elemOf P t with
  | .eql,.one (.pv (.slice (_::_))),some _=>some false
  |_,_,_=>none) else none
def unPV (op:UnOp) (x:PV):Option PV:=
 match op,x with
 | .not,.bool b=>some (.bool (!b))
 | .neg,.int k n=>some (.int k (k.wrap (0 - n)))
 |_,_=>none
inductive CvT where
 |int (k:IntKind)|string|bytes|other
def cvTOf (P:Program) (t:TypeId):CvT:=
 match P.underlying t with
 |some (.int k)=>.int k
 |some .string=>.string
 |some (.slice e)=>match P.underlying e with
  |some (.int .u8)=>.bytes
  |_=>.other
 |_=>.other
def convPV (S:EqT) (D:CvT) (x:PV):Option PV:=
 match S,D,x with
 | .none,_,_=>none
 |_,.int k,.int _ n=>some (.int k (k.wrap n))
 | .str,.string,.str s=>some (.str s)
 | .str,.bytes,.str s=>if s.size≤maxLen then some (.slice (s.data.toList.map fun b=>.int .u8 b.toNat)) else none
 |_,_,_=>none
def bytesPV? : List PV→Option (List Int)
 | []=>some []
 | .int .u8 n::r=>(bytesPV? r).map (n :: ·)
 |_::_=>none
def convB (S D:CvT) (x:PV):Option PV:=
 match S,D,x with
 | .bytes,.string,.slice es=>if es.isEmpty then none else (bytesPV? es).map fun ns=>.str (ns.foldl (fun r n=>r.push (UInt8.ofNat n.toNat)) ByteArray.empty)
 |_,_,_=>none
def capOf:SV→Option Cap
 | .one (.pv p)=>some (.pv p)
 | .one (.ptr n off)=>some (.ptr n off)
 |_=>none
def capsOf:List SV→Option (List Cap)
 | []=>some []
 |x::xs=>match capOf x with
  |some c=>(capsOf xs).map (c :: ·)
  |none=>none
def mkFn (f:FuncId) (cs:List Cap):SV:=
 match capsPV? cs with
 |some ps=>.one (.pv (.fn f ps))
 |none=>.one (.fn f cs)
def fillSC (place:Nat→Option (Nat×Sz)) (cells:List SC):List (Nat×SV)→Option (List SC)
 | []=>some cells
 | (i,x)::rest=>
  match place i with
  |none=>none
  |some (off,k)=>match x.cellsAt? k with
   |none=>none
   |some xs=>if off+xs.length≤cells.length then fillSC place (cells.take off++xs++cells.drop (off+xs.length)) rest else none
def pvsOf (k:Sz):List SV→Option (List PV)
 | []=>some []
 |x::xs=>match x.pv? with
  |some p=>if p.hasSz k then (pvsOf k xs).map (p :: ·) else none
  |none=>none
def intOf? : SV→Option Int
 | .one (.pv (.int _ n))=>some n
 |_=>none
def boundsOf (len:Nat) (lo hi mx:Option SV):Option (Nat×Nat×Bool):=
 match (match lo with|some x=>intOf? x|none=>some 0),(match hi with|some x=>intOf? x|none=>some (len:Int)),mx with
 |some l,some h,none=>if 0≤l∧l≤h∧h≤len then some (l.toNat,h.toNat,false) else none
 |some l,some h,some m=>match hi,intOf? m with
  |some _,some m=>if 0≤l∧l≤h∧h≤len∧m=h then some (l.toNat,h.toNat,true) else none
  |_,_=>none
 |_,_,_=>none
def mapTOf (P:Program) (t:TypeId):Bool:=
 match P.underlying t with
 |some (.map k e)=>(match P.underlying k with|some (.int .i64)=>true|_=>false)&&(match P.underlying e with|some .bool=>true|_=>false)
 |_=>false
def mapIOf (P:Program) (t:TypeId):Bool:=
 match P.underlying t with
 |some (.map k e)=>(match P.underlying k with|some (.int .i64)=>true|_=>false)&&(match P.info? e with|some i=>(match i.zero with|some (.int .i64 z)=>z==0|_=>false)|none=>false)
 |_=>false
def findI:List (Int×Int)→Int→Option Int
 | [],_=>none
 |k::ks,i=>if i=k.1 then some k.2 else findI ks i
def lookI (ok:Bool) (r:Option Int):PV:=if ok then .tuple [.int .i64 (r.getD 0),.bool r.isSome] else .int .i64 (r.getD 0)
def newMap (P:Program) (t:TypeId) (d:Nat):Option (SV×List (Nm×Box)×List Nat):=
 some (.one (.mp (.loc d)),[(.loc d,⟨.one,.one (.mpc (if mapIOf P t=true then .nums [] else .set []))⟩)],[])
def addK (ks:List Int) (i:Int):List Int:=if i∈ks then ks else ks++[i]
abbrev Eff:=SV×List (Nm×Box)×List Nat
def Eff.pv (p:PV):Option Eff:=some (.one (.pv p),[],[])
def tokOf (o:Oper):Option Nat:=o.dst.map fun d=>2*d+1
def aLen (P:Program) (T:TypeId) (x:SV):Option Int:=
 match x.pv?,elemOf P T,eqTOf P T with
 |some (.slice es),some _,_=>some es.length
 |some .nilsl,some _,_=>some 0
 |some (.str s),_,.str=>some s.size
 |_,_,_=>none
def nilOf:SV→SV
 | .one (.pv .nilsl)=>.one .nilS
 |s=>s
def aAppend (P:Program) (fz:List Nat) (o:Oper) (T:TypeId) (s x:SV):Option Eff:=
 match elemSz P T,x.pv?,o.dst with
 |some (k,bytes),some (.slice ys),some d=>
  if ys.all (·.hasSz k) then
   match nilOf s with
   | .one (.own t k' [])=>if fz.contains (1000000+d) then
      (if ys.isEmpty then none else if k'=k∧ys.length*bytes≤140737488355328∧ys.length≤maxLen then some (.one (.ex (2*d+1) k ys),[],[t,2*d]) else none)
     else if k'=k∧ys.length*bytes≤140737488355328∧ys.length≤maxLen then some (.one (.own (2*d+1) k ys),[],[t,2*d]) else none
   | .one (.own t k' es)=>if k'=k∧(es.length+ys.length)*bytes≤140737488355328∧es.length+ys.length≤maxLen then some (.one (.own (2*d+1) k (es++ys)),[],[t,2*d]) else none
   | .one (.ex t k' es)=>if k'=k∧(es.length+ys.length)*bytes≤140737488355328∧es.length+ys.length≤maxLen then some (.one (.ex (2*d+1) k (es++ys)),[],[t,2*d]) else none
   | .one .nilS=>if fz.contains (1000000+d) then
      (if ys.isEmpty then none else if ys.length*bytes≤140737488355328∧ys.length≤maxLen then some (.one (.ex (2*d+1) k ys),[],[2*d]) else none)
     else if ys.length*bytes≤140737488355328∧ys.length≤maxLen then some (.one (.own (2*d+1) k ys),[],[2*d]) else none
   | .one (.pv (.slice es))=>if ys.isEmpty then some (.one (.pv (.slice es)),[],[]) else none
   |_=>none
  else none
 |_,_,_=>none
def aAppendRow (P:Program) (o:Oper) (T:TypeId) (s x:SV):Option Eff:=
 match elemSz P T,x.pv?,o.dst with
 |some (k,bytes),some (.slice ys),some d=>
  if ys.all (·.hasSz k)=true∧ys.isEmpty=false then
   match nilOf s with
   | .one (.ex t k' es)=>if k'=k∧(es.length+ys.length)*bytes≤140737488355328∧es.length+ys.length≤maxLen then some (.one (.rw (.loc d) (es.length+ys.length)),[(.loc d,⟨.one,.one (.rwc k (es++ys))⟩)],[t]) else none
   | .one .nilS=>if ys.length*bytes≤140737488355328∧ys.length≤maxLen then some (.one (.rw (.loc d) ys.length),[(.loc d,⟨.one,.one (.rwc k ys)⟩)],[]) else none
   |_=>none
  else none
 |_,_,_=>none
def rowFlag (fz:List Nat) (o:Oper):Bool:=
 match o.dst with
 |some d=>fz.contains (3000000+d)
 |none=>false
def aBuiltin (P:Program) (fz:List Nat) (o:Oper) (b:Builtin) (tys:List TypeId) (args:List SV):Option Eff:=
 match b,tys,args with
 | .len,[T],[.one (.rw _ m)]=>match elemOf P T with
  |some _=>Eff.pv (.int .i64 m)
  |none=>none
 | .len,[T],[.one (.ex _ _ es)]=>match elemOf P T with
  |some _=>Eff.pv (.int .i64 es.length)
  |none=>none
 | .len,[T],[x]=>match aLen P T x with
  |some n=>Eff.pv (.int .i64 n)
  |none=>none
 | .append,[T,T'],[s,x]=>if T=T' then (if rowFlag fz o=true then aAppendRow P o T s x else aAppend P fz o T s x) else none
 | .min,_,[.one (.pv (.int k a)),.one (.pv (.int k' b))]=>if k=k' then Eff.pv (.int k (if b<a then b else a)) else none
 | .max,_,[.one (.pv (.int k a)),.one (.pv (.int k' b))]=>if k=k' then Eff.pv (.int k (if b>a then b else a)) else none
 |_,_,_=>none
def unfxSV:SV→SV
 | .one (.pv p)=>.one (.pv p.unfx)
 |x=>x
theorem unfxSV_rep {G:Gh}{used:List Nat}{x:SV}{v:Value}(h:RepSV G used x v):RepSV G used (unfxSV x) v:=by
 unfold unfxSV
 split
 ·exact unfx_rep h
 ·exact h
def nilPV:PV→Option Eff
 | .ep y off=>Eff.pv (.ep y off)
 | .fx ps e=>Eff.pv (.fx ps e)
 | .fxc ps e=>Eff.pv (.fxc ps e)
 | .fn f ps=>Eff.pv (.fn f ps)
 |_=>none
def aPure (P:Program) (A:Ann) (o:Oper) (ρ:Operand→SV) (bx:Nm→Option Box):Option Eff:=
 match o.op with
 | .move x | .assign x=>some (ρ x,[],[])
 | .pick c a b=>match ρ c with
  | .one (.pv (.bool true))=>some (ρ a,[],[])
  | .one (.pv (.bool false))=>some (ρ b,[],[])
  |_=>none
 | .alloc t=>match o.dst,zeroOf P t with
  |some d,some (k,z)=>some (.one (.ptr (.loc d) 0),[(.loc d,⟨k,z⟩)],[])
  |_,_=>none
 | .box t x=>match o.dst,szOf P t with
  |some d,some k=>
   if A.imm.contains d then
    match (ρ x).pv? with
    |some p=>if p.hasSz k then Eff.pv (.ep p 0) else none
    |none=>none
   else if (ρ x).hasSz k then some (.one (.ptr (.loc d) 0),[(.loc d,⟨k,ρ x⟩)],[]) else none
  |_,_=>none
 | .build t parts=>match zeroOf P t,placesOf P t with
  |some (.agg _,.agg zs),some pl=>
   match fillSC (pl[·]?) zs (parts.toList.map fun x=>(x.1,ρ x.2)) with
   |some cs=>some (.agg cs,[],[])
   |none=>none
  |_,_=>none
 | .buildSlice t len parts=>match elemSz P t,o.dst with
  |some (k,_),some d=>if rowFlag A.frz o=true then (match parts.toList.map fun x=>(x.1,ρ x.2) with
    | [(0,x)]=>if len=1∧x.hasSz k=true∧k.size≤16777216 then some (.one (.sl (.loc d)),[(.loc d,⟨k,x⟩)],[]) else none
    |_=>none) else
   if parts.toList.map (·.1)=List.range len∧len*k.size≤16777216 then
    match pvsOf k (parts.toList.map fun x=>ρ x.2) with
    |some es=>some (.one (.own (2*d+1) k es),[],[2*d])
    |none=>none
   else none
  |_,_=>none
 | .load t a=>match szOf P t with
  |some kt=>match unfxSV (ρ a) with
   | .one (.ptr n off)=>match bx n with
    |some b=>match rowOf? b.c with
     |some (k,es)=>if k=kt then (match rowIx off k.size with
      |some i=>(match es[i]? with
       |some e=>Eff.pv e
       |none=>none)
      |none=>none) else (match es[off / k.size]? with
      |some e=>(match loadPV e (off % k.size) kt with
       |some v=>some (v,[],[])
       |none=>none)
      |none=>none)
     |none=>if b.c.isMp=true then none else match loadSV b.k b.c off kt with
      |some v=>some (v,[],[])
      |none=>none
    |none=>none
   | .one (.pv (.ep x off))=>match loadPV x off kt with
    |some v=>some (v,[],[])
    |none=>none
   |_=>none
  |none=>none
 | .store t a x=>match szOf P t with
  |some kt=>match ρ a with
   | .one (.ptr n off)=>match bx n with
    |some b=>match rowOf? b.c with
     |some (k,es)=>if k=kt then (match rowIx off k.size,(ρ x).pv? with
      |some i,some p=>if i<es.length∧p.hasSz k=true then some (.one .any,[(n,⟨b.k,.one (.rwc k (es.set i p))⟩)],[]) else none
      |_,_=>none) else none
     |none=>if b.c.isMp=true then none else match storeSV b.k b.c off kt (ρ x) with
      |some c=>some (.one .any,[(n,⟨b.k,c⟩)],[])
      |none=>none
    |none=>none
   |_=>none
  |none=>none
 | .nilCheck x=>match ρ x with
  | .one (.ptr n off)=>some (.one (.ptr n off),[],[])
  | .one (.pv p)=>nilPV p
  | .one (.fn f cs)=>some (.one (.fn f cs),[],[])
  |_=>none
 | .binOp op t x y _=>match nilCmp P op t (ρ x) y with
  |some r=>Eff.pv (.bool r)
  |none=>match (ρ x).pv?,(ρ y).pv? with
   |some a,some b=>match binPV (eqTOf P t) (isCst x||isCst y) op a b with
    |some p=>Eff.pv p
    |none=>none
   |_,_=>none
 | .unOp op _ x=>match (ρ x).pv? with
  |some a=>match unPV op a with
   |some p=>Eff.pv p
   |none=>none
  |none=>none
 | .convert src dst x=>match (ρ x).pv? with
  |some a=>match convPV (eqTOf P src) (cvTOf P dst) a with
   |some p=>Eff.pv p
   |none=>match convB (cvTOf P src) (cvTOf P dst) a with
    |some p=>Eff.pv p
    |none=>none
  |none=>none
 | .makeFunc (.func f) first captured=>if first.size=0 then
   match capsOf (captured.toList.map ρ) with
   |some cs=>some (mkFn f cs,[],[])
   |none=>none
  else none
 | .slice t x lo hi mx=>match (ρ x).pv? with
  |some (.str s)=>match eqTOf P t,boundsOf s.size (lo.map ρ) (hi.map ρ) (mx.map ρ) with
   | .str,some (l,h,false)=>Eff.pv (.str (s.extract l h))
   |_,_=>none
  |some (.slice es)=>match elemSz P t with
   |some (k,_)=>if es.all (·.hasSz k) then
     match boundsOf es.length (lo.map ρ) (hi.map ρ) (mx.map ρ),o.dst with
     |some (l,h,false),_=>Eff.pv (.slice ((es.take h).drop l))
     |some (l,h,true),some d=>some (.one (.own (2*d+1) k ((es.take h).drop l)),[],[2*d])
     |_,_=>none
    else none
   |none=>none
  |_=>none
 | .fieldAddr t x f=>match fieldOff P t f with
  |some off'=>match unfxSV (ρ x) with
   | .one (.ptr n off)=>some (.one (.ptr n (off+off')),[],[])
   | .one (.pv (.ep y off))=>Eff.pv (.ep y (off+off'))
   |_=>none
  |none=>none
 | .field t x f=>match fieldOff P t f,fieldSz P t f with
  |some off,some k=>match (ρ x).pv? with
   |some (.agg ps)=>match loadPV (.agg ps) off k with
    |some v=>some (v,[],[])
    |none=>none
   |_=>none
  |_,_=>none
 | .indexAddr t x ix=>match rwOf? (ρ x) with
  |some (n,m)=>(match elemSz P t,intOf? (ρ ix) with
   |some (k,_),some i=>if 0≤i∧i<(m:Int) then some (.one (.ptr n (i.toNat*k.size)),[],[]) else none
   |_,_=>none)
  |none=>match elemSz P t,(ρ x).pv?,intOf? (ρ ix) with
   |some (k,_),some (.slice es),some i=>
    if 0≤i then
     match es[i.toNat]? with
     |some e=>if e.hasSz k then Eff.pv (.ep e 0) else none
     |none=>none
    else none
   |_,_,_=>none
 | .index t x ix=>match (ρ x).pv?,intOf? (ρ ix),eqTOf P t with
  |some (.str s),some i,.str=>
   if 0≤i then
    match s.data.toList[i.toNat]? with
    |some b=>Eff.pv (.int .u8 b.toNat)
    |none=>none
   else none
  |_,_,_=>none
 | .extract x i=>match ρ x with
  | .one (.pv (.tuple ps))=>match ps[i]? with
   |some p=>Eff.pv p
   |none=>none
  |_=>none
 | .makeInterface t x=>match (ρ x).pv?,eqTOf P t with
  |_,.none=>none
  |_,.iface=>none
  |some p,_=>Eff.pv (.ifc t p)
  |none,_=>none
 | .call {callee:=.builtin b,args,argTypes}=>aBuiltin P A.frz o b argTypes.toList (args.toList.map ρ)
 | .makeMap t none=>match o.dst with
  |some d=>newMap P t d
  |none=>none
 | .makeMap t (some x)=>match o.dst,ρ x with
  |some d,.one (.pv (.int .i64 _))=>if mapIOf P t=true then newMap P t d else none
  |_,_=>none
 | .mapUpdate t m x v=>if mapTOf P t=true then
   match ρ m,ρ x,ρ v with
   | .one (.mp n),.one (.pv (.int .i64 i)),.one (.pv (.bool true))=>match bx n with
    |some ⟨k,.one (.mpc (.set ks))⟩=>some (.one .any,[(n,⟨k,.one (.mpc (.set (addK ks i)))⟩)],[])
    |_=>none
   |_,_,_=>none
   else none
 | .insert t m x v=>if mapIOf P t=true then
   match ρ m,ρ x,ρ v with
   | .one (.mp n),.one (.pv (.int .i64 i)),.one (.pv (.int .i64 y))=>match bx n with
    |some ⟨k,.one (.mpc (.nums ks))⟩=>if i∈ks.map (·.1) then none else some (.one .any,[(n,⟨k,.one (.mpc (.nums (ks++[(i,y)])))⟩)],[])
    |_=>none
   |_,_,_=>none
   else none
 | .lookup t m x ok=>if mapIOf P t=true then
   match ρ m,ρ x with
   | .one (.mp n),.one (.pv (.int .i64 i))=>match bx n with
    |some ⟨_,.one (.mpc (.nums ks))⟩=>Eff.pv (lookI ok (findI ks i))
    |_=>none
   |_,_=>none
   else none
 |_=>none
/-! Boxes in memory; the ghost state's laws -/
def MapOk (es:Array MapEntry) (clock:Nat) (ks:List Int):Prop:=
 es.toList.map (·.key)=ks.map (Value.int .i64)∧ks.Nodup∧(∀e∈es.toList,e.val=.bool true∧e.born<clock)∧(es.toList.map (·.born)).Nodup
def MapIOk (es:Array MapEntry) (ks:List (Int×Int)):Prop:=
 es.toList.map (·.key)=ks.map (fun k=>Value.int .i64 k.1)∧es.toList.map (·.val)=ks.map (fun k=>Value.int .i64 k.2)
def MapCOk (es:Array MapEntry) (clock:Nat):MapC→Prop
 | .set ks=>MapOk es clock ks
 | .nums ks=>MapIOk es ks
theorem MapCOk.nil:∀m:MapC,(m=.set []∨m=.nums [])→MapCOk #[] 0 m
 |_,.inl e=>by subst e;exact ⟨rfl,List.nodup_nil,by simp,by simp⟩
 |_,.inr e=>by subst e;exact ⟨rfl,rfl⟩
def MapAt (G:Gh) (w:World) (n:Nm) (bx:Box):Prop:=
 ∃b ks es clock,G.blk n=some b∧w.heap[b]? = some (.map es clock)∧bx.c=.one (.mpc ks)∧MapCOk es clock ks
def CellsAt (G:Gh) (used:List Nat) (w:World) (n:Nm) (bx:Box):Prop:=
 ∃b vs T u,G.blk n=some b∧w.heap[b]? = some (.cells vs T (0,0))∧u.cells=vs∧bx.k.okV u=true∧RepSV G used bx.c u
def RowAt (G:Gh) (w:World) (n:Nm) (bx:Box):Prop:=
 ∃b k es cur T vs,G.blk n=some b∧w.heap[b]? = some (.cells cur T (0,0))∧bx.c=.one (.rwc k es)∧RepL G.I es vs∧(∀x∈vs,k.okV x=true)∧(∀e∈es,e.hasSz k=true)∧0<k.size ∧
  (∀(j:Nat) (v:Value),(flatCells vs)[j]? = some v→cur[j]? = some v)∧cur.size=G.cap n*k.size∧G.cap n≤maxLen
def BoxAt (G:Gh) (used:List Nat) (w:World) (n:Nm) (bx:Box):Prop:=CellsAt G used w n bx∨MapAt G w n bx∨RowAt G w n bx
theorem RowAt.keep {G G':Gh}{w w':World}{n n':Nm}{bx bx':Box}(h:RowAt G w n bx) (hI:G.I.le G'.I) (hb:∀b,G.blk n=some b→G'.blk n'=some b∧w'.heap[b]? = w.heap[b]?) (hc:G.blk n≠none→G'.cap n'=G.cap n)
  (hx:∀k es,bx.c=.one (.rwc k es)→bx'.c=.one (.rwc k es)):RowAt G' w' n' bx':=by
 obtain ⟨b,k,es,cur,T,vs,h1,h2,h3,h4,h5,h6,h7,h8,h9,h10⟩:=h
 have e:=hc (by rw[h1];simp)
 exact ⟨b,k,es,cur,T,vs,(hb b h1).1,by rw[(hb b h1).2];exact h2,hx k es h3,RepL.mono hI _ _ h4,h5,h6,h7,h8,by rw[e];exact h9,by rw[e];exact h10⟩
theorem BoxAt.cells {G:Gh}{used:List Nat}{w:World}{n:Nm}{bx:Box}(h:BoxAt G used w n bx) (hm:¬bx.c.isMp=true):CellsAt G used w n bx:=by
 rcases h with h|⟨b,ks,es,clock,_,_,h3,_⟩|⟨b,k,es,cur,T,vs,_,_,h3,_⟩
 ·exact h
 ·rw[h3] at hm;exact absurd rfl hm
 ·rw[h3] at hm;exact absurd rfl hm
theorem BoxAt.blk {G:Gh}{used:List Nat}{w:World}{n:Nm}{bx:Box}(h:BoxAt G used w n bx):∃b,G.blk n=some b:=by
 rcases h with ⟨b,_,_,_,h,_⟩|⟨b,_,_,_,h,_⟩|⟨b,_,_,_,_,_,h,_⟩<;>exact ⟨b,h⟩
theorem BoxAt.map {G:Gh}{used:List Nat}{w:World}{n:Nm}{k:Sz}{ks:MapC}(h:BoxAt G used w n ⟨k,.one (.mpc ks)⟩):∃b es clock,G.blk n=some b∧w.heap[b]? = some (.map es clock)∧MapCOk es clock ks:=by
 rcases h with ⟨b,vs,T,u,_,_,_,_,h⟩|⟨b,ks',es,clock,h1,h2,h3,h4⟩|⟨b,k,es,cur,T,vs,_,_,h3,_⟩
 ·exact h.elim
 ·cases h3;exact ⟨b,es,clock,h1,h2,h4⟩
 ·cases h3
theorem BoxAt.row {G:Gh}{used:List Nat}{w:World}{n:Nm}{k':Sz}{k:Sz}{es:List PV}(h:BoxAt G used w n ⟨k',.one (.rwc k es)⟩):∃b cur T vs,G.blk n=some b∧w.heap[b]? = some (.cells cur T (0,0))∧RepL G.I es vs∧(∀x∈vs,k.okV x=true)∧(∀e∈es,e.hasSz k=true)∧0<k.size ∧
  (∀(j:Nat) (v:Value),(flatCells vs)[j]? = some v→cur[j]? = some v)∧cur.size=G.cap n*k.size∧G.cap n≤maxLen:=by
 rcases h with ⟨b,vs,T,u,_,_,_,_,h⟩|⟨b,ks',es,clock,h1,h2,h3,h4⟩|⟨b,k,es,cur,T,vs,h1,h2,h3,h4⟩
 ·exact h.elim
 ·cases h3
 ·cases h3;exact ⟨b,cur,T,vs,h1,h2,h4⟩
def TkOk (G:Gh) (w:World) (tk:Tk):Prop:=
 ∃a len cap,tk.hdr=.slice a len cap∧len≤cap∧cap≤maxLen∧match tk.g with
  |none=>cap=len
  |some g=>∃cur T,a=some ⟨g,0,none⟩∧w.heap[g]? = some (.cells cur T (0,0))∧cur.size=cap*tk.k.size∧(∀o,len*tk.k.size≤o→G.I g o=none) ∧
   ∀cs,tk.x=some cs→(∀o,G.I g o=none)∧∀(j:Nat) (v:Value),cs[j]? = some v→cur[j]? = some v
def gvars:List Nat:=[2,3]
def gcells (g:Nat) (cs:Array Value):Prop:=if g=2 then ∃t u,cs=#[.iface t u] else cs=(Lib.pow10Tab.map fun z=>Value.int .u64 z).toArray
def Held (g:Nat) (o:Option Obj):Prop:=∃cs T fr,o=some (.cells cs T fr)∧gcells g cs
def Glob (G:Gh) (w:World):Prop:=
 ∀g∈gvars,Held g w.heap[g]?∧(∀n,G.blk n≠some g)∧(∀t tk,G.tok t=some tk→tk.g≠some g)
structure WInv (G:Gh) (w:World):Prop where
 imm:∀b o v,G.I b o=some v→w.cell? ⟨b,o,none⟩=some v
 inj:∀n m b,G.blk n=some b→G.blk m=some b→n=m
 lt:∀n b,G.blk n=some b→b<w.heap.size
 blkImm:∀n b,G.blk n=some b→∀o,G.I b o=none
 tokOk:∀t tk,G.tok t=some tk→TkOk G w tk
 tokInj:∀t t' tk tk' g,G.tok t=some tk→G.tok t'=some tk'→tk.g=some g→tk'.g=some g→t=t'
 tokBlk:∀t tk g n,G.tok t=some tk→tk.g=some g→G.blk n≠some g
 glob:Glob G w
def TokBlk (G:Gh) (g:Nat) (us:Nat→Prop):Prop:=∃t tk,us t∧G.tok t=some tk∧tk.g=some g
structure Ext (G G':Gh) (w w':World) (mods:Nm→Prop) (us:Nat→Prop):Prop where
 I:G.I.le G'.I
 INew:∀b o v,G'.I b o=some v→G.I b o=some v∨w.heap.size≤b∨TokBlk G b us
 blk:∀n,¬mods n→G'.blk n=G.blk n
 mono:∀n b,G.blk n=some b→G'.blk n=some b
 blkNew:∀n b,G'.blk n=some b→G.blk n=some b∨w.heap.size≤b∨TokBlk G b us
 tok:∀t,¬us t→∀tk,G.tok t=some tk→G'.tok t=some tk
 tokNew:∀t tk g,G'.tok t=some tk→tk.g=some g→G.tok t=some tk∨w.heap.size≤g∨TokBlk G g us
 heap:∀b,b<w.heap.size→(∀n,mods n→G.blk n≠some b)→¬TokBlk G b us→w'.heap[b]? = w.heap[b]?
 size:w.heap.size≤w'.heap.size
 os:w'.os=w.os
 tape:w'.tape=w.tape
 output:w'.output=w.output
 cap:∀n,G.blk n≠none→G'.cap n=G.cap n
theorem Glob.lt {G:Gh}{w:World}(h:Glob G w) {g:Nat}(hg:g∈gvars):g<w.heap.size:=by
 obtain ⟨⟨cs,T,fr,h1,_⟩,_⟩:=h g hg
 exact (Array.getElem?_eq_some_iff.1 h1).1
theorem Glob.step {G G':Gh}{w w':World}{mods:Nm→Prop}{us:Nat→Prop}(h:Glob G w) (hE:Ext G G' w w' mods us):Glob G' w':=by
 intro g hg
 have hlt:=h.lt hg
 obtain ⟨h1,h2,h3⟩:=h g hg
 have hn:¬TokBlk G g us:=fun ⟨t,tk,_,h4,h5⟩=>h3 t tk h4 h5
 refine ⟨by rw[hE.heap g hlt (fun n _=>h2 n) hn];exact h1,fun n h4=>?_,fun t tk h4 h5=>?_⟩
 ·rcases hE.blkNew n g h4 with h5|h5|h5
  ·exact h2 n h5
  ·omega
  ·exact hn h5
 ·rcases hE.tokNew t tk g h4 h5 with h6|h6|h6
  ·exact h3 t tk h6 h5
  ·omega
  ·exact hn h6
end Go.Abs
namespace Go.Abs
open Go
section runs
variable {P:Program}{w:World}
def Sz.isAgg:Sz→Bool
 | .one=>false
 | .agg _=>true
theorem szOf_cases {t:TypeId}{k:Sz}(h:szOf P t=some k):∃d i,P.underlying t=some d∧P.info? t=some i∧i.size=k.size ∧
  k.isAgg=(match d with | .struct _ | .array _ _=>true|_=>false):=by
 unfold szOf at h
 cases hu:P.underlying t with
 |none=>simp[hu] at h
 |some d=>
  cases hi:P.info? t with
  |none=>cases d<;>simp[hu,hi] at h
  |some i=>cases d<;>simp[hu,hi] at h<;>first
   | (obtain ⟨h1,rfl⟩:=h;exact ⟨_,i,rfl,rfl,h1,rfl⟩)
   | (subst h;exact ⟨_,i,rfl,rfl,rfl,rfl⟩)
theorem szOf_info {t:TypeId}{k:Sz}(h:szOf P t=some k):∃i,P.info? t=some i∧i.size=k.size:=by
 obtain ⟨d,i,_,hi,hs,_⟩:=szOf_cases h
 exact ⟨i,hi,hs⟩
theorem run_typeInfo {t:TypeId}{i:TypeInfo}(h:P.info? t=some i):(typeInfo t).run P w=.ok i w:=by
 simp[typeInfo,h]
theorem run_sizeOf_sz {t:TypeId}{k:Sz}(h:szOf P t=some k):(sizeOf t).run P w=.ok k.size w:=by
 obtain ⟨i,hi,hs⟩:=szOf_info h
 simp[sizeOf,run_typeInfo hi,hs]
theorem run_isAgg_sz {t:TypeId}{k:Sz}(h:szOf P t=some k):(Go.isAgg t).run P w=.ok k.isAgg w:=by
 obtain ⟨d,i,hu,hi,hs,ha⟩:=szOf_cases h
 rw[ha]
 cases d<;>simp[Go.isAgg,run_underlying hu]
theorem add_none (b o j:Nat):(⟨b,o,none⟩:Addr).add j=⟨b,o+j,none⟩:=by
 unfold Addr.add;split<;>simp_all
theorem run_loadVar_sz {t:TypeId}{k:Sz}(h:szOf P t=some k) {b o:Nat}{u:Value}(hu:k.okV u=true)
  (hc:∀(j:Nat) (v:Value),u.cells[j]? = some v→w.cell? ⟨b,o+j,none⟩=some v):(loadVar t ⟨b,o,none⟩).run P w=.ok u w:=by
 have hl:(loadCells ⟨b,o,none⟩ k.size).run P w=.ok u.cells w:=by
  have:=run_loadCells_list (P:=P) (w:=w) ⟨b,o,none⟩ u.cells.toList (fun j v hj=>by rw[add_none];exact hc j v (by simpa using hj))
  rw[←Sz.size_of_ok hu]
  simpa using this
 cases k with
 |one=>
  have h0:w.cell? ⟨b,o,none⟩=some u:=by
   have:=hc 0 u (by cases u<;>simp_all [Sz.okV,Value.oneCell',Value.cells])
   simpa using this
  simp[loadVar,run_isAgg_sz h,Sz.isAgg,run_load,h0]
 |agg n=>
  cases u with
  |agg cs=>simp[loadVar,run_isAgg_sz h,Sz.isAgg,run_sizeOf_sz h,hl,Value.cells]
  |_=>simp[Sz.okV] at hu
theorem run_storeVar_sz {t:TypeId}{k:Sz}(h:szOf P t=some k) {g o:Nat}{u:Value}(hu:k.okV u=true) {cur:Array Value}{T:TypeId}
  (hg:w.heap[g]? = some (.cells cur T (0,0))) (hfit:o+k.size≤cur.size) :
  (storeVar t ⟨g,o,none⟩ u).run P w=.ok () (w.setRow g (cur.toList.take o++u.cells.toList++cur.toList.drop (o+u.cells.toList.length)).toArray):=by
 have hst:=run_storeCells_at P g o T u.cells.toList 0 cur w hg (by have:=Sz.size_of_ok hu;simp;omega) (Sz.cells_one hu)
 simp only[Nat.add_zero] at hst
 simp only[Array.length_toList] at hst ⊢
 simp[storeVar,run_sizeOf_sz h,Sz.size_of_ok hu]
 simpa [Sz.size_of_ok hu] using hst
theorem run_newVar {t:TypeId}{v:Value}:(newVar t v).run P w=.ok ⟨w.heap.size,0,none⟩ (w.alloc (.cells v.cells t)):=by
 simp[newVar,newRow]
theorem zeroOf_spec {t:TypeId}{k:Sz}{z:SV}(h:zeroOf P t=some (k,z)):∃i v,szOf P t=some k∧P.info? t=some i∧i.zero=some v∧k.okV v=true∧z=zeroSV v:=by
 unfold zeroOf at h
 split at h
 ·rename_i k' i hk hi
  split at h
  ·rename_i v hv
   split at h
   ·rename_i hok;cases h;exact ⟨i,v,hk,hi,hv,hok,rfl⟩
   ·cases h
  ·cases h
 ·cases h
end runs
theorem zeroSC_rep (G:Gh) (used:List Nat) (v:Value):RepSC G used (zeroSC v) v:=by
 unfold zeroSC
 split<;>simp[RepSC,Rep]
theorem zeroSCs_rep (G:Gh) (used:List Nat):∀vs:List Value,RepSCs G used (vs.map zeroSC) vs
 | []=>by simp[RepSCs]
 |v::vs=>by
  simp only[List.map_cons,RepSCs]
  exact ⟨v,vs,rfl,zeroSC_rep G used v,zeroSCs_rep G used vs⟩
theorem zeroSV_rep (G:Gh) (used:List Nat) {k:Sz}{v:Value}(h:k.okV v=true):RepSV G used (zeroSV v) v:=by
 cases v with
 |agg vs=>
  cases k with
  |one=>simp[Sz.okV,Value.oneCell'] at h
  |agg n=>
   simp only[zeroSV,RepSV]
   refine ⟨vs,rfl,zeroSCs_rep G used _,?_⟩
   simp only[Sz.okV,Bool.and_eq_true,List.all_eq_true] at h
   exact h.2
 |_=>simp only[zeroSV,RepSV];exact zeroSC_rep G used _
theorem constSV_rep (G:Gh) (used:List Nat) (v:Value):RepSV G used (constSV v) v:=by
 cases v with
 |agg vs=>
  simp only[constSV]
  split
  ·rename_i h
   exact ⟨vs,rfl,zeroSCs_rep G used _,fun x hx=>List.all_eq_true.1 h x hx⟩
  ·trivial
 |_=>simp only[constSV,RepSV];exact zeroSC_rep G used _
/-! Parts of values -/
theorem hasSz_okV {G:Gh}{used:List Nat}{c:SV}{v:Value}{k:Sz}(h:RepSV G used c v) (hk:c.hasSz k=true):k.okV v=true:=by
 cases c with
 |one c=>
  cases k with
  |one=>
   cases c with
   |pv p=>exact hasSz_ok (I:=G.I) (by simpa [RepSV,RepSC] using h) (by simpa [SV.hasSz] using hk)
   |ptr n off=>simp only[RepSV,RepSC] at h;obtain ⟨b,_,rfl⟩:=h;rfl
   |own t k' es=>simp only[RepSV,RepSC] at h;obtain ⟨h1,_⟩:=h;rw[Rep] at h1;obtain ⟨a,len,cap,k'',rfl,_⟩:=h1;rfl
   |ex t k' es=>simp only[RepSV,RepSC] at h;obtain ⟨⟨a,cap,rfl⟩,_⟩:=h;rfl
   |nilS=>simp only[RepSV,RepSC] at h;subst h;rfl
   |fn f caps=>simp only[RepSV,RepSC] at h;obtain ⟨cv,rfl,_⟩:=h;rfl
   |any=>simp[SV.hasSz] at hk
   |mp n=>simp only[RepSV,RepSC] at h;obtain ⟨b,_,rfl⟩:=h;rfl
   |mpc ks=>exact h.elim
   |rw n m=>simp only[RepSV,RepSC] at h;obtain ⟨b,cap,_,rfl,_⟩:=h;rfl
   |rwc k es=>exact h.elim
   |sl n=>simp only[RepSV,RepSC] at h;obtain ⟨b,_,rfl⟩:=h;rfl
  |agg n=>
   cases c with
   |pv p=>exact hasSz_ok (I:=G.I) (by simpa [RepSV,RepSC] using h) (by simpa [SV.hasSz] using hk)
   |_=>simp[SV.hasSz] at hk
 |agg cs=>
  cases k with
  |one=>simp[SV.hasSz] at hk
  |agg n=>
   obtain ⟨vs,rfl,h2,h3⟩:=h
   have:=h2.length
   simp only[SV.hasSz,beq_iff_eq] at hk
   simp only[Sz.okV,Bool.and_eq_true,beq_iff_eq,List.all_eq_true]
   exact ⟨by rw[←hk,this,Array.length_toList],h3⟩
def sub (k:Sz) (cs:List Value) (off:Nat):Option Value:=
 match k with
 | .one=>cs[off]?
 | .agg n=>if off+n≤cs.length then some (.agg ((cs.drop off).take n).toArray) else none
theorem sub_cells {k:Sz}{cs:List Value}{off:Nat}{u:Value}(h:sub k cs off=some u) (h1:∀x∈cs,x.oneCell'=true) :
  k.okV u=true∧∀(j:Nat) (v:Value),u.cells[j]? = some v→cs[off+j]? = some v:=by
 cases k with
 |one=>
  simp only[sub] at h
  have hm:=h1 u (List.mem_of_getElem? h)
  have hc:u.cells=#[u]:=by cases u<;>simp_all [Value.oneCell',Value.cells]
  refine ⟨hm,fun j v hj=>?_⟩
  rw[hc] at hj
  cases j with
  |zero=>simp at hj;subst hj;simpa using h
  |succ j=>simp at hj
 |agg n=>
  simp only[sub] at h
  split at h
  ·rename_i hle
   cases h
   refine ⟨?_,fun j v hj=>?_⟩
   ·simp only[Sz.okV,Bool.and_eq_true,beq_iff_eq,List.all_eq_true]
    refine ⟨by simp;omega,fun x hx=>h1 x ?_⟩
    exact List.mem_of_mem_drop (List.mem_of_mem_take (by simpa using hx))
   ·simp only[Value.cells,List.getElem?_toArray,List.getElem?_take,List.getElem?_drop] at hj
    split at hj
    ·exact hj
    ·cases hj
  ·cases h
theorem loadPV_sound {G:Gh}{used:List Nat}{x:PV}{u:Value}{off:Nat}{kt:Sz}{v:SV}(hu:Rep G.I x u) {k:Sz}(hk:k.okV u=true) (h:loadPV x off kt=some v) :
  ∃u',kt.okV u'=true∧RepSV G used v u'∧∀(j:Nat) (y:Value),u'.cells[j]? = some y→u.cells[off+j]? = some y:=by
 unfold loadPV at h
 split at h
 ·rename_i h0
  cases h
  refine ⟨u,hasSz_ok hu h0.2,by simpa [RepSV,RepSC] using hu,fun j y hj=>by rw[h0.1];simpa using hj⟩
 ·split at h
  ·rename_i cs _
   split at h
   ·rename_i p hp
    cases h
    rw[Rep] at hu
    obtain ⟨vs,rfl,h2,h3⟩:=hu
    obtain ⟨y,hy,hr⟩:=h2.get off p hp
    obtain ⟨h4,h5⟩:=sub_cells (k:=.one) (cs:=vs.toList) (off:=off) (u:=y) (by simpa [sub] using hy) h3
    refine ⟨y,h4,by simpa [RepSV,RepSC] using hr,fun j z hj=>by simpa [Value.cells] using h5 j z hj⟩
   ·cases h
  ·rename_i cs n _
   split at h
   ·rename_i hle
    cases h
    rw[Rep] at hu
    obtain ⟨vs,rfl,h2,h3⟩:=hu
    have hlen:=h2.length
    obtain ⟨h4,h5⟩:=sub_cells (k:=.agg n) (cs:=vs.toList) (off:=off) (u:=.agg ((vs.toList.drop off).take n).toArray) (by rw[sub,if_pos (by omega)]) h3
    refine ⟨_,h4,?_,fun j z hj=>by simpa [Value.cells] using h5 j z hj⟩
    simp only[RepSV,RepSC]
    rw[Rep]
    refine ⟨_,rfl,by simpa using (h2.drop off).take n,fun x hx=>h3 x ?_⟩
    exact List.mem_of_mem_drop (List.mem_of_mem_take (by simpa using hx))
   ·cases h
  ·cases h
theorem loadSV_sound {G:Gh}{used:List Nat}{k:Sz}{c:SV}{u:Value}{off:Nat}{kt:Sz}{v:SV}(hu:RepSV G used c u) (hk:k.okV u=true) (h:loadSV k c off kt=some v) :
  ∃u',kt.okV u'=true∧RepSV G used v u'∧∀(j:Nat) (y:Value),u'.cells[j]? = some y→u.cells[off+j]? = some y:=by
 unfold loadSV at h
 split at h
 ·rename_i h0
  cases h
  refine ⟨u,by rw[h0.2];exact hk,hu,fun j y hj=>by rw[h0.1];simpa using hj⟩
 ·split at h
  ·rename_i cs _
   split at h
   ·rename_i x hx
    cases h
    obtain ⟨vs,rfl,h2,h3⟩:=hu
    obtain ⟨y,hy,hr⟩:=h2.get off x hx
    obtain ⟨h4,h5⟩:=sub_cells (k:=.one) (cs:=vs.toList) (off:=off) (u:=y) (by simpa [sub] using hy) h3
    exact ⟨y,h4,hr,fun j z hj=>by simpa [Value.cells] using h5 j z hj⟩
   ·cases h
  ·rename_i cs n _
   split at h
   ·rename_i hle
    cases h
    obtain ⟨vs,rfl,h2,h3⟩:=hu
    have hlen:=h2.length
    obtain ⟨h4,h5⟩:=sub_cells (k:=.agg n) (cs:=vs.toList) (off:=off) (u:=.agg ((vs.toList.drop off).take n).toArray) (by rw[sub,if_pos (by omega)]) h3
    refine ⟨_,h4,?_,fun j z hj=>by simpa [Value.cells] using h5 j z hj⟩
    refine ⟨_,rfl,by simpa using (h2.drop off).take n,fun x hx=>h3 x ?_⟩
    exact List.mem_of_mem_drop (List.mem_of_mem_take (by simpa using hx))
   ·cases h
  ·exact loadPV_sound (by simpa [RepSV,RepSC] using hu) hk h
  ·cases h
theorem cells_rep {G:Gh}{used:List Nat}{c:SV}{cs:List SC}{u:Value}(hu:RepSV G used c u) (h:c.cells? = some cs) :
  ∃vs:Array Value,u=.agg vs∧RepSCs G used cs vs.toList∧∀x∈vs.toList,x.oneCell'=true:=by
 unfold SV.cells? at h
 split at h
 ·cases h;exact hu
 ·cases h
  simp only[RepSV,RepSC] at hu
  rw[Rep] at hu
  obtain ⟨vs,rfl,h2,h3⟩:=hu
  exact ⟨vs,rfl,RepSCs.of_pvs h2,h3⟩
 ·cases h
theorem cellsAt_rep {G:Gh}{used:List Nat}{k:Sz}{c:SV}{cs:List SC}{u:Value}(hu:RepSV G used c u) (h:c.cellsAt? k=some cs) :
  k.okV u=true∧RepSCs G used cs u.cells.toList:=by
 have one:∀{x:SC},RepSC G used x u→Sz.one.okV u=true→RepSCs G used [x] u.cells.toList:=by
  intro x hx ho
  have hc:u.cells=#[u]:=by cases u<;>simp_all [Sz.okV,Value.oneCell',Value.cells]
  simp only[hc,RepSCs]
  exact ⟨u,[],rfl,hx,rfl⟩
 unfold SV.cellsAt? at h
 split at h
 ·rename_i p
  split at h
  ·rename_i hp
   cases h
   have hr:Rep G.I p u:=by simpa [RepSV,RepSC] using hu
   have ho:=hasSz_ok hr hp
   exact ⟨ho,one (x:=.pv p) (by simpa [RepSC] using hr) ho⟩
  ·cases h
 ·cases h
 ·rename_i c hc1 hc2
  cases h
  have ho:Sz.one.okV u=true:=hasSz_okV (c:=.one c) hu (by cases c<;>simp_all [SV.hasSz])
  exact ⟨ho,one hu ho⟩
 ·cases h
 ·rename_i n x
  split at h
  ·rename_i cs' hcs
   split at h
   ·rename_i hl
    cases h
    obtain ⟨vs,rfl,h2,h3⟩:=cells_rep hu hcs
    have:=h2.length
    refine ⟨?_,by simpa [Value.cells] using h2⟩
    simp only[Sz.okV,Bool.and_eq_true,beq_iff_eq,List.all_eq_true]
    exact ⟨by rw[←hl,this,Array.length_toList],h3⟩
   ·cases h
  ·cases h
end Go.Abs
namespace Go.Abs
open Go
theorem RepCaps.ext {G G':Gh}(hI:G.I.le G'.I) (hb:∀n b,G.blk n=some b→G'.blk n=some b):∀{cs:List Cap}{vs:List Value},RepCaps G cs vs→RepCaps G' cs vs
 | [],vs,h=>by simpa [RepCaps] using h
 | .pv p::cs,vs,h=>by
  simp only[RepCaps] at h ⊢
  obtain ⟨v,rest,rfl,h2,h3⟩:=h
  exact ⟨v,rest,rfl,Rep.mono hI _ _ h2,RepCaps.ext hI hb h3⟩
 | .ptr n off::cs,vs,h=>by
  simp only[RepCaps] at h ⊢
  obtain ⟨b,rest,rfl,h2,h3⟩:=h
  exact ⟨b,rest,rfl,hb _ _ h2,RepCaps.ext hI hb h3⟩
structure Keeps (G G':Gh) (used used':List Nat):Prop where
 I:G.I.le G'.I
 blk:∀n b,G.blk n=some b→G'.blk n=some b
 tok:∀t,t∉used'→∀tk,G.tok t=some tk→G'.tok t=some tk
 sub:∀t,t∈used→t∈used'
 cap:∀n,G.blk n≠none→G'.cap n=G.cap n
theorem RepSC.keeps {G G':Gh}{used used':List Nat}(h:Keeps G G' used used'):∀{c:SC}{v:Value},RepSC G used c v→RepSC G' used' c v
 | .pv p,v,hr=>Rep.mono h.I _ _ hr
 | .ptr n off,v,hr=>by
  simp only[RepSC] at hr ⊢
  obtain ⟨b,h1,h2⟩:=hr
  exact ⟨b,h.blk _ _ h1,h2⟩
 | .own t k es,v,hr=>by
  simp only[RepSC] at hr ⊢
  refine ⟨Rep.mono h.I _ _ hr.1,hr.2.1,fun ht=>?_⟩
  obtain ⟨tk,h1,h2,h3⟩:=hr.2.2 (fun hu=>ht (h.sub _ hu))
  exact ⟨tk,h.tok _ ht _ h1,h2,h3⟩
 | .ex t k es,v,hr=>by
  simp only[RepSC] at hr ⊢
  refine ⟨hr.1,hr.2.1,fun ht=>?_⟩
  obtain ⟨tk,h1,h2⟩:=hr.2.2 (fun hu=>ht (h.sub _ hu))
  exact ⟨tk,h.tok _ ht _ h1,h2.mono h.I⟩
 | .nilS,v,hr=>hr
 | .fn f caps,v,hr=>by
  simp only[RepSC] at hr ⊢
  obtain ⟨cv,rfl,h2⟩:=hr
  exact ⟨cv,rfl,RepCaps.ext h.I h.blk h2⟩
 | .any,v,_=>trivial
 | .mp n,v,hr=>by
  simp only[RepSC] at hr ⊢
  obtain ⟨b,h1,h2⟩:=hr
  exact ⟨b,h.blk _ _ h1,h2⟩
 | .mpc ks,v,hr=>hr.elim
 | .rw n m,v,hr=>by
  simp only[RepSC] at hr ⊢
  obtain ⟨b,cap,h1,h2,h3,h4,h5⟩:=hr
  exact ⟨b,cap,h.blk _ _ h1,h2,h3,h4,by rw[h.cap n (by rw[h1];simp)];exact h5⟩
 | .rwc k es,v,hr=>hr.elim
 | .sl n,v,hr=>by
  simp only[RepSC] at hr ⊢
  obtain ⟨b,h1,h2⟩:=hr
  exact ⟨b,h.blk _ _ h1,h2⟩
theorem RepSCs.keeps {G G':Gh}{used used':List Nat}(h:Keeps G G' used used'):∀{cs:List SC}{vs:List Value},RepSCs G used cs vs→RepSCs G' used' cs vs
 | [],vs,hr=>by simpa [RepSCs] using hr
 |c::cs,vs,hr=>by
  simp only[RepSCs] at hr ⊢
  obtain ⟨v,rest,rfl,h2,h3⟩:=hr
  exact ⟨v,rest,rfl,RepSC.keeps h h2,RepSCs.keeps h h3⟩
theorem RepSV.keeps {G G':Gh}{used used':List Nat}(h:Keeps G G' used used'):∀{s:SV}{v:Value},RepSV G used s v→RepSV G' used' s v
 | .one c,v,hr=>RepSC.keeps h (c:=c) hr
 | .agg cs,v,hr=>by
  obtain ⟨vs,rfl,h2,h3⟩:=hr
  exact ⟨vs,rfl,RepSCs.keeps h h2,h3⟩
theorem Ext.keeps {G G':Gh}{w w':World}{mods:Nm→Prop}{us used:List Nat}(h:Ext G G' w w' mods (·∈us)):Keeps G G' used (us++used):=
 ⟨h.I,h.mono,fun t ht tk hk=>h.tok t (fun hu=>ht (List.mem_append_left _ hu)) tk hk,fun _ ht=>List.mem_append_right _ ht,h.cap⟩
theorem Ext.refl (G:Gh) (w:World) (mods:Nm→Prop) (us:Nat→Prop):Ext G G w w mods us:=
 ⟨Imm.le_refl _,fun _ _ _ h=>.inl h,fun _ _=>rfl,fun _ _ h=>h,fun _ _ h=>.inl h,fun _ _ _ h=>h,fun _ _ _ h _=>.inl h,fun _ _ _ _=>rfl,Nat.le_refl _,rfl,rfl,rfl,fun _ _=>rfl⟩
theorem Ext.drew {G G':Gh}{w w':World}{mods:Nm→Prop}{us:Nat→Prop}(h:Ext G G' w.drew w' mods us):Ext G G' w w' mods us:=
 ⟨h.I,h.INew,h.blk,h.mono,h.blkNew,h.tok,h.tokNew,h.heap,h.size,h.os,h.tape,h.output,h.cap⟩
theorem WInv.drew {G:Gh}{w:World}(h:WInv G w):WInv G w.drew:=
 ⟨h.imm,h.inj,h.lt,h.blkImm,h.tokOk,h.tokInj,h.tokBlk,h.glob⟩
theorem BoxAt.ext {G G':Gh}{w w':World}{mods:Nm→Prop}{us used:List Nat}(h:Ext G G' w w' mods (·∈us)) (hW:WInv G w) {n:Nm}{bx:Box}(hn:¬mods n) (hb:BoxAt G used w n bx):BoxAt G' (us++used) w' n bx:=by
 have hsame:∀b,G.blk n=some b→w'.heap[b]? = w.heap[b]? := by
  intro b h1
  rw[h.heap b (hW.lt _ _ h1) (fun m hm e=>hn (by rw[hW.inj _ _ _ h1 e];exact hm)) ?_]
  rintro ⟨t,tk,_,ht,hg⟩
  exact hW.tokBlk t tk b n ht hg h1
 rcases hb with ⟨b,vs,T,u,h1,h2,h3,h4,h5⟩|⟨b,ks,es,clock,h1,h2,h3,h4⟩|h1
 ·exact .inl ⟨b,vs,T,u,h.mono _ _ h1,by rw[hsame b h1];exact h2,h3,h4,RepSV.keeps h.keeps h5⟩
 ·exact .inr (.inl ⟨b,ks,es,clock,h.mono _ _ h1,by rw[hsame b h1];exact h2,h3,h4⟩)
 ·exact .inr (.inr (h1.keep h.I (fun b hb=>⟨h.mono _ _ hb,hsame b hb⟩) (h.cap n) fun _ _ h=>h))
theorem TkOk.keep {G G':Gh}{w w':World}{tk:Tk}(h:TkOk G w tk) (hI:∀g,tk.g=some g→w'.heap[g]? = w.heap[g]?∧∀o v,G'.I g o=some v→G.I g o=some v):TkOk G' w' tk:=by
 obtain ⟨a,len,cap,h1,h2,h3,h4⟩:=h
 refine ⟨a,len,cap,h1,h2,h3,?_⟩
 cases hg:tk.g with
 |none=>rw[hg] at h4;exact h4
 |some g=>
  rw[hg] at h4
  obtain ⟨cur,T,h5,h6,h7,h8,h8'⟩:=h4
  obtain ⟨i1,i2⟩:=hI g hg
  have hno:∀o,G.I g o=none→G'.I g o=none:=by
   intro o ho
   cases hv:G'.I g o with
   |none=>rfl
   |some v=>have h9:=i2 _ _ hv;rw[ho] at h9;cases h9
  exact ⟨cur,T,h5,by rw[i1];exact h6,h7,fun o ho=>hno o (h8 o ho),fun cs hc=>⟨fun o=>hno o ((h8' cs hc).1 o),(h8' cs hc).2⟩⟩
theorem imm_lt {G:Gh}{w:World}(h:WInv G w) {b o:Nat}{v:Value}(hv:G.I b o=some v):b<w.heap.size:=
 World.block_lt_of_cell? w ⟨b,o,none⟩ (h.imm b o v hv)
theorem tok_lt {G:Gh}{w:World}(h:WInv G w) {t:Nat}{tk:Tk}{g:Nat}(ht:G.tok t=some tk) (hg:tk.g=some g):g<w.heap.size:=by
 obtain ⟨a,len,cap,_,_,_,h4⟩:=h.tokOk t tk ht
 rw[hg] at h4
 obtain ⟨cur,T,_,h6,_⟩:=h4
 exact (Array.getElem?_eq_some_iff.1 h6).1
theorem heap_alloc_lt (w:World) (o:Obj) {b:Nat}(h:b<w.heap.size):(w.alloc o).heap[b]? = w.heap[b]? := heap_alloc_old w o b h
theorem lay_obj {G:Gh}{w:World}{n:Nm}{ob:Obj}(hW:WInv G w) (hn:G.blk n=none) :
  ∃G',WInv G' (w.alloc ob)∧Ext G G' w (w.alloc ob) (·=n) (·∈([]:List Nat))∧G'.blk n=some w.heap.size∧G'.tok=G.tok∧(∀m,G'.blk m≠none→G.blk m≠none∨m=n):=by
 let G':Gh:=⟨G.I,fun m=>if m=n then some w.heap.size else G.blk m,G.tok,G.cap⟩
 have hE:Ext G G' w (w.alloc ob) (·=n) (·∈([]:List Nat)):=by
  refine ⟨Imm.le_refl _,fun _ _ _ h=>.inl h,fun m hm=>if_neg hm,fun m b hm=>?_,fun m b hm=>?_,fun _ _ _ h=>h,fun _ _ _ h _=>.inl h,fun b hb _ _=>heap_alloc_lt w _ hb,by simp,rfl,rfl,rfl,fun _ _=>rfl⟩
  ·show (if m=n then _ else _)=_
   rw[if_neg (fun e=>by subst e;rw[hn] at hm;cases hm)];exact hm
  ·have hm':(if m=n then some w.heap.size else G.blk m)=some b:=hm
   split at hm'
   ·cases hm';exact .inr (.inl (Nat.le_refl _))
   ·exact .inl hm'
 refine ⟨G',⟨?_,?_,?_,?_,?_,?_,?_,hW.glob.step hE⟩,hE,?_,rfl,?_⟩
 ·intro b o v hv
  have:=hW.imm b o v hv
  rw[World.cell?_alloc_lt w _ _ (World.block_lt_of_cell? w _ this)]
  exact this
 ·intro m m' b h1 h2
  have h1':(if m=n then some w.heap.size else G.blk m)=some b:=h1
  have h2':(if m'=n then some w.heap.size else G.blk m')=some b:=h2
  split at h1'<;>split at h2'
  ·simp_all
  ·cases h1';exact absurd (hW.lt _ _ h2') (Nat.lt_irrefl _)
  ·cases h2';exact absurd (hW.lt _ _ h1') (Nat.lt_irrefl _)
  ·exact hW.inj _ _ _ h1' h2'
 ·intro m b h1
  have h1':(if m=n then some w.heap.size else G.blk m)=some b:=h1
  split at h1'
  ·cases h1';simp
  ·have:=hW.lt _ _ h1';simp;omega
 ·intro m b h1 o
  have h1':(if m=n then some w.heap.size else G.blk m)=some b:=h1
  split at h1'
  ·cases h1'
   cases hv:G.I w.heap.size o with
   |none=>rfl
   |some v=>exact absurd (imm_lt hW hv) (Nat.lt_irrefl _)
  ·exact hW.blkImm _ _ h1' o
 ·intro t tk ht
  exact (hW.tokOk t tk ht).keep fun g hg=>⟨heap_alloc_lt w _ (tok_lt hW ht hg),fun _ _ h=>h⟩
 ·exact hW.tokInj
 ·intro t tk g m ht hg hm
  have hm':(if m=n then some w.heap.size else G.blk m)=some g:=hm
  split at hm'
  ·cases hm';exact absurd (tok_lt hW ht hg) (Nat.lt_irrefl _)
  ·exact hW.tokBlk t tk g m ht hg hm'
 ·exact if_pos rfl
 ·intro m hm
  by_cases h:m=n
  ·exact .inr h
  ·left
   have:G'.blk m=G.blk m:=if_neg h
   rw[←this];exact hm
theorem lay_box {G:Gh}{w:World}{used:List Nat}{n:Nm}{k:Sz}{c:SV}{u:Value}{T:TypeId}(hW:WInv G w) (hn:G.blk n=none) (hk:k.okV u=true) (hc:RepSV G used c u) :
  ∃G',WInv G' (w.alloc (.cells u.cells T))∧Ext G G' w (w.alloc (.cells u.cells T)) (·=n) (·∈([]:List Nat))∧BoxAt G' used (w.alloc (.cells u.cells T)) n ⟨k,c⟩ ∧
   RepSV G' used (.one (.ptr n 0)) (.pointer (some ⟨w.heap.size,0,none⟩))∧G'.tok=G.tok∧(∀m,G'.blk m≠none→G.blk m≠none∨m=n):=by
 obtain ⟨G',h1,h2,h3,h4,h5⟩:=lay_obj (ob:=.cells u.cells T) hW hn
 refine ⟨G',h1,h2,.inl ⟨w.heap.size,u.cells,T,u,h3,heap_alloc_new w _,rfl,hk,?_⟩,⟨w.heap.size,h3,rfl⟩,h4,h5⟩
 exact RepSV.keeps (by have:=h2.keeps (used:=used);simpa using this) hc
theorem lay_map {G:Gh}{w:World}{used:List Nat}{n:Nm}{k:Sz}{m:MapC}(hm:MapCOk #[] 0 m) (hW:WInv G w) (hn:G.blk n=none) :
  ∃G',WInv G' (w.alloc (.map #[] 0))∧Ext G G' w (w.alloc (.map #[] 0)) (·=n) (·∈([]:List Nat))∧BoxAt G' used (w.alloc (.map #[] 0)) n ⟨k,.one (.mpc m)⟩ ∧
   RepSV G' used (.one (.mp n)) (.map (some w.heap.size))∧G'.tok=G.tok∧(∀m,G'.blk m≠none→G.blk m≠none∨m=n):=by
 obtain ⟨G',h1,h2,h3,h4,h5⟩:=lay_obj (ob:=.map #[] 0) hW hn
 exact ⟨G',h1,h2,.inr (.inl ⟨w.heap.size,m,#[],0,h3,heap_alloc_new w _,rfl,hm⟩),⟨w.heap.size,h3,rfl⟩,h4,h5⟩
theorem turn_obj {G:Gh}{w w':World}{n:Nm}{b:Nat}(hW:WInv G w) (hn:G.blk n=some b) (hold:∀b',b'≠b→w'.heap[b']? = w.heap[b']?) (hsz:w'.heap.size=w.heap.size) (ho:w'.os=w.os) (ht:w'.tape=w.tape) (hu:w'.output=w.output) :
  WInv G w'∧Ext G G w w' (·=n) (·∈([]:List Nat)):=by
 refine ⟨⟨?_,hW.inj,?_,hW.blkImm,?_,hW.tokInj,hW.tokBlk,fun g hg=>⟨by rw[hold g (fun e=>(hW.glob g hg).2.1 n (by rw[e];exact hn))];exact (hW.glob g hg).1,(hW.glob g hg).2⟩⟩,⟨Imm.le_refl _,fun _ _ _ h=>.inl h,fun _ _=>rfl,fun _ _ h=>h,fun _ _ h=>.inl h,fun _ _ _ h=>h,fun _ _ _ h _=>.inl h,?_,by rw[hsz];exact Nat.le_refl _,ho,ht,hu,fun _ _=>rfl⟩⟩
 ·intro b' o v hv
  have hne:b'≠b:=fun e=>by subst e;have:=hW.blkImm _ _ hn o;rw[hv] at this;cases this
  rw[World.cell?_of_block (w:=w) (hold b' hne)]
  exact hW.imm _ _ _ hv
 ·intro m b' hm;rw[hsz];exact hW.lt _ _ hm
 ·intro t tk ht
  exact (hW.tokOk t tk ht).keep fun g hg=>⟨hold g (fun e=>by subst e;exact hW.tokBlk t tk _ n ht hg hn),fun _ _ h=>h⟩
 ·intro b' hb hm _
  exact hold b' (fun e=>hm n rfl (by rw[e];exact hn))
theorem turn_box {G:Gh}{w:World}{used:List Nat}{n:Nm}{k:Sz}{c:SV}{b:Nat}{vs:Array Value}{T:TypeId}{u:Value}(hW:WInv G w) (hn:G.blk n=some b) (hh:w.heap[b]? = some (.cells vs T (0,0)))
  (hk:k.okV u=true) (hc:RepSV G used c u) :
  WInv G (w.setRow b u.cells)∧Ext G G w (w.setRow b u.cells) (·=n) (·∈([]:List Nat))∧BoxAt G used (w.setRow b u.cells) n ⟨k,c⟩:=by
 obtain ⟨h1,h2⟩:=turn_obj (w':=w.setRow b u.cells) hW hn (fun b' h=>setRow_other w b b' _ (by omega)) (by simp) rfl rfl rfl
 exact ⟨h1,h2,.inl ⟨b,u.cells,T,u,hn,setRow_heap w b vs _ T _ hh,rfl,hk,hc⟩⟩
end Go.Abs
namespace Go.Abs
open Go
theorem cell_row {w:World}{g:Nat}{cur:Array Value}{T:TypeId}{fr:Nat×Nat}(h:w.heap[g]? = some (.cells cur T fr)) (o:Nat):w.cell? ⟨g,o,none⟩=cur[o]? := by
 simp[World.cell?,h]
theorem lay_row {G:Gh}{w:World}(hW:WInv G w) (cells:Array Value) (T:TypeId) (len cap:Nat) (k:Sz) (t0:Nat) (ht0:G.tok t0=none)
  (hlc:len≤cap) (hm:cap≤maxLen) (hs:cells.size=cap*k.size) (sp:Bool) (hsp:sp=false→cap=len) :
  ∃G',WInv G' (w.alloc (.cells cells T))∧Ext G G' w (w.alloc (.cells cells T)) (fun _=>False) (·∈([]:List Nat)) ∧
   (∀o v,o<len*k.size→cells[o]? = some v→G'.I w.heap.size o=some v) ∧
   G'.tok t0=some ⟨.slice (some ⟨w.heap.size,0,none⟩) len cap,k,if sp then some w.heap.size else none,none⟩ ∧
   (∀t,G'.tok t≠none→G.tok t≠none∨t=t0)∧G'.blk=G.blk:=by
 let tk0:Tk:=⟨.slice (some ⟨w.heap.size,0,none⟩) len cap,k,if sp then some w.heap.size else none,none⟩
 let G':Gh:=⟨fun b o=>if b=w.heap.size then (if o<len*k.size then cells[o]? else none) else G.I b o,G.blk,fun t=>if t=t0 then some tk0 else G.tok t,G.cap⟩
 have hlt:∀{b o v},G.I b o=some v→b≠w.heap.size:=fun hv e=>by have:=imm_lt hW hv;omega
 have hE:Ext G G' w (w.alloc (.cells cells T)) (fun _=>False) (·∈([]:List Nat)):=by
  refine ⟨fun b o v hv=>?_,fun b o v hv=>?_,fun _ _=>rfl,fun _ _ h=>h,fun _ _ h=>.inl h,fun t _ tk ht=>?_,fun t tk g ht hg=>?_,fun b hb _ _=>heap_alloc_lt w _ hb,by simp,rfl,rfl,rfl,fun _ _=>rfl⟩
  ·show (if b=w.heap.size then _ else _)=_
   rw[if_neg (hlt hv)];exact hv
  ·have hv':(if b=w.heap.size then (if o<len*k.size then cells[o]? else none) else G.I b o)=some v:=hv
   split at hv'
   ·rename_i e;exact .inr (.inl (by omega))
   ·exact .inl hv'
  ·show (if t=t0 then _ else _)=_
   rw[if_neg (fun e=>by subst e;rw[ht0] at ht;cases ht)];exact ht
  ·have ht':(if t=t0 then some tk0 else G.tok t)=some tk:=ht
   split at ht'
   ·cases ht'
    have:(if sp then some w.heap.size else none)=some g:=hg
    split at this
    ·cases this;exact .inr (.inl (Nat.le_refl _))
    ·cases this
   ·exact .inl ht'
 have himm:∀b o v,G'.I b o=some v→(w.alloc (.cells cells T)).cell? ⟨b,o,none⟩=some v:=by
  intro b o v hv
  have hv':(if b=w.heap.size then (if o<len*k.size then cells[o]? else none) else G.I b o)=some v:=hv
  split at hv'
  ·rename_i e
   subst e
   split at hv'
   ·rw[cell_row (heap_alloc_new w _)];exact hv'
   ·cases hv'
  ·have:=hW.imm b o v hv'
   rw[World.cell?_alloc_lt w _ _ (World.block_lt_of_cell? w _ this)];exact this
 refine ⟨G',⟨himm,hW.inj,?_,?_,?_,?_,?_,hW.glob.step hE⟩,hE,?_,if_pos rfl,?_,rfl⟩
 ·intro n b hn;have:=hW.lt n b hn;simp;omega
 ·intro n b hn o
  show (if b=w.heap.size then _ else _)=_
  rw[if_neg (by have:=hW.lt n b hn;omega)]
  exact hW.blkImm n b hn o
 ·intro t tk ht
  have ht':(if t=t0 then some tk0 else G.tok t)=some tk:=ht
  split at ht'
  ·cases ht'
   refine ⟨_,len,cap,rfl,hlc,hm,?_⟩
   cases sp with
   |false=>exact hsp rfl
   |true=>
    refine ⟨cells,T,rfl,heap_alloc_new w _,hs,fun o ho=>?_,fun cs hc=>by cases hc⟩
    show (if w.heap.size=w.heap.size then (if o<len*k.size then cells[o]? else none) else G.I w.heap.size o)=none
    have ho':len*k.size≤o:=ho
    rw[if_pos rfl,if_neg (by omega)]
  ·exact (hW.tokOk t tk ht').keep fun g hg=>⟨heap_alloc_lt w _ (tok_lt hW ht' hg),fun o v hv=>by
    have hv':(if g=w.heap.size then (if o<len*k.size then cells[o]? else none) else G.I g o)=some v:=hv
    rw[if_neg (by have:=tok_lt hW ht' hg;omega)] at hv'
    exact hv'⟩
 ·intro t t' tk tk' g h1 h2 h3 h4
  have h1':(if t=t0 then some tk0 else G.tok t)=some tk:=h1
  have h2':(if t'=t0 then some tk0 else G.tok t')=some tk':=h2
  have new:∀{g},tk0.g=some g→g=w.heap.size:=by
   intro g h
   have:(if sp then some w.heap.size else none)=some g:=h
   split at this<;>cases this
   rfl
  split at h1'<;>split at h2'
  ·simp_all
  ·cases h1';have:=tok_lt hW h2' h4;have:=new h3;omega
  ·cases h2';have:=tok_lt hW h1' h3;have:=new h4;omega
  ·exact hW.tokInj t t' tk tk' g h1' h2' h3 h4
 ·intro t tk g n h1 h2 hn
  have h1':(if t=t0 then some tk0 else G.tok t)=some tk:=h1
  split at h1'
  ·cases h1'
   have:(if sp then some w.heap.size else none)=some g:=h2
   split at this
   ·cases this;have:=hW.lt n _ hn;omega
   ·cases this
  ·exact hW.tokBlk t tk g n h1' h2 hn
 ·intro o v ho hv
  show (if w.heap.size=w.heap.size then (if o<len*k.size then cells[o]? else none) else G.I w.heap.size o)=some v
  rw[if_pos rfl,if_pos ho];exact hv
 ·intro t ht
  by_cases h:t=t0
  ·exact .inr h
  ·left
   have:G'.tok t=G.tok t:=if_neg h
   rw[←this];exact ht
theorem name_tok {G:Gh}{w:World}(hW:WInv G w) (t0:Nat) (ht0:G.tok t0=none) (tk:Tk) (hg:tk.g=none) (hok:TkOk G w tk) (us:Nat→Prop) :
  ∃G',WInv G' w∧Ext G G' w w (fun _=>False) us∧G'.I=G.I∧G'.tok t0=some tk∧(∀t,G'.tok t≠none→G.tok t≠none∨t=t0)∧G'.blk=G.blk:=by
 let G':Gh:=⟨G.I,G.blk,fun t=>if t=t0 then some tk else G.tok t,G.cap⟩
 have hgl:Glob G' w:=fun g hg'=>⟨(hW.glob g hg').1,(hW.glob g hg').2.1,fun t tk' ht hgg=>by
  have ht':(if t=t0 then some tk else G.tok t)=some tk':=ht
  split at ht'
  ·cases ht';rw[hg] at hgg;cases hgg
  ·exact (hW.glob g hg').2.2 t tk' ht' hgg⟩
 refine ⟨G',⟨hW.imm,hW.inj,hW.lt,hW.blkImm,?_,?_,?_,hgl⟩,⟨Imm.le_refl _,fun _ _ _ h=>.inl h,fun _ _=>rfl,fun _ _ h=>h,fun _ _ h=>.inl h,fun t _ tk' ht=>?_,fun t tk' g ht hg'=>?_,fun _ _ _ _=>rfl,Nat.le_refl _,rfl,rfl,rfl,fun _ _=>rfl⟩,rfl,if_pos rfl,?_,rfl⟩
 ·intro t tk' ht
  have ht':(if t=t0 then some tk else G.tok t)=some tk':=ht
  split at ht'
  ·cases ht'
   exact hok.keep fun _ _=>⟨rfl,fun _ _ h=>h⟩
  ·exact (hW.tokOk t tk' ht').keep fun _ _=>⟨rfl,fun _ _ h=>h⟩
 ·intro t t' tk1 tk2 g h1 h2 h3 h4
  have h1':(if t=t0 then some tk else G.tok t)=some tk1:=h1
  have h2':(if t'=t0 then some tk else G.tok t')=some tk2:=h2
  split at h1'<;>split at h2'
  ·simp_all
  ·cases h1';rw[hg] at h3;cases h3
  ·cases h2';rw[hg] at h4;cases h4
  ·exact hW.tokInj t t' tk1 tk2 g h1' h2' h3 h4
 ·intro t tk1 g n h1 h2
  have h1':(if t=t0 then some tk else G.tok t)=some tk1:=h1
  split at h1'
  ·cases h1';rw[hg] at h2;cases h2
  ·exact hW.tokBlk t tk1 g n h1' h2
 ·show (if t=t0 then _ else _)=_
  rw[if_neg (fun e=>by subst e;rw[ht0] at ht;cases ht)];exact ht
 ·have ht':(if t=t0 then some tk else G.tok t)=some tk':=ht
  split at ht'
  ·cases ht';rw[hg] at hg';cases hg'
  ·exact .inl ht'
 ·intro t ht
  by_cases h:t=t0
  ·exact .inr h
  ·left
   have:G'.tok t=G.tok t:=if_neg h
   rw[←this];exact ht
theorem grow_row {G:Gh}{w:World}(hW:WInv G w) (t t0:Nat) (ht0:G.tok t0=none) (k:Sz) (g len cap:Nat) (cur:Array Value) (T:TypeId)
  (ht:G.tok t=some ⟨.slice (some ⟨g,0,none⟩) len cap,k,some g,none⟩) (hg:w.heap[g]? = some (.cells cur T (0,0))) (hcs:cur.size=cap*k.size)
  (m:Nat) (news:List Value) (hl:news.length=m*k.size) (hroom:len+m≤cap) (us:List Nat) (hus:t∈us) :
  ∃G',WInv G' (w.setRow g (cur.toList.take (len*k.size)++news++cur.toList.drop (len*k.size+news.length)).toArray) ∧
   Ext G G' w (w.setRow g (cur.toList.take (len*k.size)++news++cur.toList.drop (len*k.size+news.length)).toArray) (fun _=>False) (·∈us) ∧
   (∀j v,news[j]? = some v→G'.I g (len*k.size+j)=some v) ∧
   G'.tok t0=some ⟨.slice (some ⟨g,0,none⟩) (len+m) cap,k,some g,none⟩ ∧
   (∀t,G'.tok t≠none→G.tok t≠none∨t=t0)∧G'.blk=G.blk:=by
 generalize hcs':(cur.toList.take (len*k.size)++news++cur.toList.drop (len*k.size+news.length)).toArray=cs'
 let tk0:Tk:=⟨.slice (some ⟨g,0,none⟩) (len+m) cap,k,some g,none⟩
 let G':Gh:=⟨fun b o=>if b=g∧len*k.size≤o then news[o - len*k.size]? else G.I b o,G.blk,fun t'=>if t'=t0 then some tk0 else if t'=t then none else G.tok t',G.cap⟩
 obtain ⟨a,len',cap',hh,hle,hmx,hfr⟩:=hW.tokOk t _ ht
 simp only[Value.slice.injEq] at hh
 obtain ⟨rfl,rfl,rfl⟩:=hh
 simp only at hfr
 obtain ⟨cur',T',_,hg',hcs2,hfree,_⟩:=hfr
 have htT:TokBlk G g (·∈us):=⟨t,_,hus,ht,rfl⟩
 have hold:∀b,b≠g→(w.setRow g cs').heap[b]? = w.heap[b]? := fun b h=>setRow_other w g b _ (by omega)
 have hnew:(w.setRow g cs').heap[g]? = some (.cells cs' T (0,0)):=setRow_heap w g _ _ T _ hg
 have hk1:len*k.size+news.length≤cur.size:=by rw[hl,hcs,←Nat.add_mul];exact Nat.mul_le_mul_right _ hroom
 have hcsz:cs'.size=cur.size:=by rw[←hcs'];simp;omega
 have hcell:∀o,cs'[o]? = if o<len*k.size then cur[o]? else if o<len*k.size+news.length then news[o - len*k.size]? else cur[o]? := by
  intro o
  rw[←hcs']
  simp only[List.getElem?_toArray,List.append_assoc,List.getElem?_append,List.length_take,Array.length_toList,List.getElem?_take,List.getElem?_drop]
  have:min (len*k.size) cur.size=len*k.size:=by omega
  rw[this]
  by_cases h1:o<len*k.size
  ·simp[h1]
  ·simp only[h1,if_false]
   by_cases h2:o<len*k.size+news.length
   ·rw[if_pos (by omega),if_pos h2]
   ·rw[if_neg (by omega),if_neg h2]
    have:len*k.size+news.length+(o - len*k.size - news.length)=o:=by omega
    rw[this,Array.getElem?_toList]
 have himm:∀b o v,G'.I b o=some v→(w.setRow g cs').cell? ⟨b,o,none⟩=some v:=by
  intro b o v hv
  have hv':(if b=g∧len*k.size≤o then news[o - len*k.size]? else G.I b o)=some v:=hv
  split at hv'
  ·rename_i h
   obtain ⟨rfl,ho⟩:=h
   rw[cell_row hnew,hcell,if_neg (by omega),if_pos (by have:=(List.getElem?_eq_some_iff.1 hv').1;omega)]
   exact hv'
  ·rename_i h
   have h0:=hW.imm b o v hv'
   by_cases hb:b=g
   ·subst hb
    have:o<len*k.size:=by have:¬len*k.size≤o:=fun ho=>h ⟨rfl,ho⟩;omega
    rw[cell_row hnew,hcell,if_pos this]
    rw[cell_row hg] at h0;exact h0
   ·rw[World.cell?_of_block (w:=w) (hold b hb)];exact h0
 have hI:G.I.le G'.I:=by
  intro b o v hv
  show (if b=g∧len*k.size≤o then _ else _)=_
  rw[if_neg]
  ·exact hv
  ·rintro ⟨rfl,ho⟩
   have:=hfree o ho
   rw[hv] at this;cases this
 have hgl:Glob G' (w.setRow g cs'):=by
  intro g1 hg1
  obtain ⟨h1,h2,h3⟩:=hW.glob g1 hg1
  have hne:g1≠g:=fun e=>h3 t _ ht (by rw[e])
  refine ⟨by rw[hold g1 hne];exact h1,h2,fun t' tk' ht' hgg=>?_⟩
  have h4:(if t'=t0 then some tk0 else if t'=t then none else G.tok t')=some tk':=ht'
  split at h4
  ·cases h4;exact hne (Option.some.inj hgg).symm
  ·split at h4
   ·cases h4
   ·exact h3 t' tk' h4 hgg
 refine ⟨G',⟨himm,hW.inj,fun n b hn=>by simpa using hW.lt n b hn,?_,?_,?_,?_,hgl⟩,⟨hI,?_,fun _ _=>rfl,fun _ _ h=>h,fun _ _ h=>.inl h,?_,?_,?_,by simp,rfl,rfl,rfl,fun _ _=>rfl⟩,?_,if_pos rfl,?_,rfl⟩
 ·intro n b hn o
  show (if b=g∧len*k.size≤o then _ else _)=_
  rw[if_neg (fun h=>hW.tokBlk t _ g n ht rfl (by rw[←h.1];exact hn))]
  exact hW.blkImm n b hn o
 ·intro t' tk' ht'
  have h1:(if t'=t0 then some tk0 else if t'=t then none else G.tok t')=some tk':=ht'
  split at h1
  ·cases h1
   refine ⟨_,len+m,cap,rfl,hroom,hmx,cs',T,rfl,hnew,by rw[hcsz];exact hcs,fun o ho=>?_,fun cs hc=>by cases hc⟩
   show (if g=g∧len*k.size≤o then news[o - len*k.size]? else G.I g o)=none
   have ho':(len+m)*k.size≤o:=ho
   rw[Nat.add_mul] at ho'
   rw[if_pos ⟨rfl,by omega⟩]
   exact List.getElem?_eq_none_iff.2 (by omega)
  ·split at h1
   ·cases h1
   ·rename_i h2
    refine (hW.tokOk t' tk' h1).keep fun g' hg2=>?_
    have hne:g'≠g:=fun e=>h2 (hW.tokInj t' t tk' _ g h1 ht (by rw[hg2,e]) rfl)
    refine ⟨hold g' hne,fun o v hv=>?_⟩
    have hv':(if g'=g∧len*k.size≤o then news[o - len*k.size]? else G.I g' o)=some v:=hv
    rw[if_neg (fun h=>hne h.1)] at hv'
    exact hv'
 ·intro t1 t2 tk1 tk2 g' h1 h2 h3 h4
  have h1':(if t1=t0 then some tk0 else if t1=t then none else G.tok t1)=some tk1:=h1
  have h2':(if t2=t0 then some tk0 else if t2=t then none else G.tok t2)=some tk2:=h2
  split at h1'<;>split at h2'
  ·simp_all
  ·cases h1'
   cases h3
   split at h2'
   ·cases h2'
   ·rename_i h5;exact absurd (hW.tokInj t2 t tk2 _ _ h2' ht h4 rfl) h5
  ·cases h2'
   cases h4
   split at h1'
   ·cases h1'
   ·rename_i h5;exact absurd (hW.tokInj t1 t tk1 _ _ h1' ht h3 rfl) h5
  ·split at h1'
   ·cases h1'
   ·split at h2'
    ·cases h2'
    ·exact hW.tokInj t1 t2 tk1 tk2 g' h1' h2' h3 h4
 ·intro t1 tk1 g' n h1 h2 hn
  have h1':(if t1=t0 then some tk0 else if t1=t then none else G.tok t1)=some tk1:=h1
  split at h1'
  ·cases h1';cases h2;exact hW.tokBlk t _ g n ht rfl hn
  ·split at h1'
   ·cases h1'
   ·exact hW.tokBlk t1 tk1 g' n h1' h2 hn
 ·intro b o v hv
  have hv':(if b=g∧len*k.size≤o then news[o - len*k.size]? else G.I b o)=some v:=hv
  split at hv'
  ·rename_i h;rw[h.1];exact .inr (.inr htT)
  ·exact .inl hv'
 ·intro t' hn tk' ht'
  show (if t'=t0 then _ else if t'=t then _ else _)=_
  rw[if_neg (fun e=>by subst e;rw[ht0] at ht';cases ht'),if_neg (fun e=>hn (by rw[e];exact hus))]
  exact ht'
 ·intro t' tk' g' h1 h2
  have h1':(if t'=t0 then some tk0 else if t'=t then none else G.tok t')=some tk':=h1
  split at h1'
  ·cases h1';cases h2;exact .inr (.inr htT)
  ·split at h1'
   ·cases h1'
   ·exact .inl h1'
 ·intro b hb _ hnt
  exact hold b (fun e=>hnt (by rw[e];exact htT))
 ·intro j v hj
  show (if g=g∧len*k.size≤len*k.size+j then news[len*k.size+j - len*k.size]? else _)=_
  rw[if_pos ⟨rfl,Nat.le_add_right _ _⟩,Nat.add_sub_cancel_left]
  exact hj
 ·intro t' h1
  by_cases h:t'=t0
  ·exact .inr h
  ·left
   have h2:G'.tok t'=if t'=t then none else G.tok t':=if_neg h
   rw[h2] at h1
   split at h1
   ·exact absurd rfl h1
   ·exact h1
end Go.Abs
namespace Go.Abs
open Go
def OpRes (P:Program) (o:Oper) (act:Act) (w:World) (G:Gh) (used:List Nat) (sv:SV) (upd:List (Nm×Box)) (us:List Nat):Prop:=
 ∃v w' G',((execOp act.eval o).run P w=.ok (.value v) w'∨((execOp act.eval o).run P w=.ok .skip w'∧v=undef))∧RepSV G' (us++used) sv v∧WInv G' w' ∧
  Ext G G' w w' (fun n=>n∈upd.map (·.1)) (·∈us)∧(∀n b,(n,b)∈upd→BoxAt G' (us++used) w' n b) ∧
  (∀t,G'.tok t≠none→G.tok t≠none∨tokOf o=some t)∧(∀n,G'.blk n≠none→G.blk n≠none∨n∈upd.map (·.1))
theorem OpRes.quiet {P:Program}{o:Oper}{act:Act}{w:World}{G:Gh}{used:List Nat}{sv:SV}(hW:WInv G w) (v:Value)
  (hrun:(execOp act.eval o).run P w=.ok (.value v) w) (hr:RepSV G used sv v):OpRes P o act w G used sv [] []:=
 ⟨v,w,G,.inl hrun,hr,hW,Ext.refl _ _ _ _,(by simp),fun _ h=>.inl h,fun _ h=>.inl h⟩
theorem TokBlk.weaken {G:Gh}{g:Nat}{us us':Nat→Prop}(h:∀t,us t→us' t):TokBlk G g us→TokBlk G g us':=
 fun ⟨t,tk,h1,h2,h3⟩=>⟨t,tk,h t h1,h2,h3⟩
theorem Ext.weaken {G G':Gh}{w w':World}{m m':Nm→Prop}{u u':Nat→Prop}(h:Ext G G' w w' m u) (hm:∀n,m n→m' n) (hu:∀t,u t→u' t):Ext G G' w w' m' u':=
 ⟨h.I,fun b o v hv=>(h.INew b o v hv).imp id (Or.imp id (TokBlk.weaken hu)),fun n hn=>h.blk n (fun e=>hn (hm n e)),h.mono,fun n b hn=>(h.blkNew n b hn).imp id (Or.imp id (TokBlk.weaken hu)),fun t ht=>h.tok t (fun e=>ht (hu t e)),
  fun t tk g h1 h2=>(h.tokNew t tk g h1 h2).imp id (Or.imp id (TokBlk.weaken hu)),fun b hb h1 h2=>h.heap b hb (fun n hn=>h1 n (hm n hn)) (fun e=>h2 (TokBlk.weaken hu e)),h.size,h.os,h.tape,h.output,h.cap⟩
theorem intOf_rep {G:Gh}{used:List Nat}{s:SV}{v:Value}{n:Int}(h:RepSV G used s v) (hn:intOf? s=some n):∃k,v=.int k n:=by
 unfold intOf? at hn
 split at hn
 ·rename_i k m
  cases hn
  simp only[RepSV,RepSC,Rep] at h
  exact ⟨k,h⟩
 ·cases hn
/-! Tables -/
theorem elemSz_spec {P:Program}{t:TypeId}{k:Sz}{bytes:Nat}(h:elemSz P t=some (k,bytes)) :
  ∃e i z,P.underlying t=some (.slice e)∧szOf P e=some k∧P.info? e=some i∧i.size=k.size∧i.bytes=bytes∧0<k.size∧i.zero=some z∧k.okV z=true:=by
 unfold elemSz elemOf at h
 cases hu:P.underlying t with
 |none=>simp[hu] at h
 |some d=>
  cases d<;>simp[hu] at h
  rename_i e
  cases hk:zeroOf P e with
  |none=>simp[hk] at h
  |some k'=>
   obtain ⟨k',zz⟩:=k'
   obtain ⟨i0,v,hsz,hi0,hzv,hok,_⟩:=zeroOf_spec hk
   simp only[hk,hi0] at h
   split at h
   ·rename_i h0
    cases h
    obtain ⟨i',hi',hs⟩:=szOf_info hsz
    rw[hi0] at hi';cases hi'
    exact ⟨e,i0,v,rfl,hsz,hi0,hs,rfl,by omega,hzv,hok⟩
   ·cases h
theorem fieldOff_spec {P:Program}{t:TypeId}{f off:Nat}(h:fieldOff P t f=some off) :
  ∃fs fd i,P.underlying t=some (.struct fs)∧fs[f]? = some fd∧P.info? fd.type=some i∧i.size≠0∧fd.offset=off:=by
 unfold fieldOff at h
 cases hu:P.underlying t with
 |none=>simp[hu] at h
 |some d=>
  cases d<;>simp[hu] at h
  rename_i fs
  cases hf:fs[f]? with
  |none=>simp[hf] at h
  |some fd=>
   cases hi:P.info? fd.type with
   |none=>simp[hf,hi] at h
   |some i=>
    simp[hf,hi] at h
    exact ⟨fs,fd,i,rfl,hf,hi,h.1,h.2⟩
theorem fieldSz_spec {P:Program}{t:TypeId}{f:Nat}{k:Sz}{fs:Array Field}{fd:Field}(h:fieldSz P t f=some k) (hu:P.underlying t=some (.struct fs)) (hf:fs[f]? = some fd):szOf P fd.type=some k:=by
 unfold fieldSz at h
 simpa [hu,hf] using h
theorem eqTOf_bool {P:Program}{t:TypeId}(h:eqTOf P t=.bool):P.underlying t=some .bool:=by
 unfold eqTOf at h
 split at h<;>first|assumption|cases h
theorem eqTOf_iface {P:Program}{t:TypeId}(h:eqTOf P t=.iface):∃ms,P.underlying t=some (.interface ms):=by
 unfold eqTOf at h
 split at h<;>first|exact ⟨_,by assumption⟩|cases h
theorem eqTOf_ptr {P:Program}{t:TypeId}(h:eqTOf P t=.ptr):∃e,P.underlying t=some (.pointer e):=by
 unfold eqTOf at h
 split at h<;>first|exact ⟨_,by assumption⟩|cases h
theorem eqTOf_str {P:Program}{t:TypeId}(h:eqTOf P t=.str):P.underlying t=some .string:=by
 unfold eqTOf at h
 split at h<;>first|assumption|cases h
section ops
variable {P:Program}{o:Oper}{act:Act}{w:World}{G:Gh}{used:List Nat}{ρ:Operand→SV}{bx:Nm→Option Box}
theorem op_alloc {d:Nat}{t:TypeId}{k:Sz}{z:SV}(hW:WInv G w) (ho:o.op=.alloc t) (hz:zeroOf P t=some (k,z)) (hn:G.blk (.loc d)=none) :
  OpRes P o act w G used (.one (.ptr (.loc d) 0)) [(.loc d,⟨k,z⟩)] []:=by
 obtain ⟨i,v,hk,hi,hzv,hok,rfl⟩:=zeroOf_spec hz
 obtain ⟨G',h1,h2,h3,h4,h5,h6⟩:=lay_box (T:=t) hW hn hok (zeroSV_rep G used hok)
 refine ⟨_,_,G',.inl ?_,by simpa using h4,h1,h2.weaken (fun n e=>by simp[e]) (fun _ h=>h),fun n b hb=>?_,fun t' ht=>.inl (by rw[←h5];exact ht),fun n hn'=>(h6 n hn').imp id (fun e=>by simp[e])⟩
 ·simp[execOp,ho,Instr.alloc,zeroValue,run_typeInfo hi,hzv,run_newVar]
 ·simp only[List.mem_singleton,Prod.mk.injEq] at hb
  obtain ⟨rfl,rfl⟩:=hb
  simpa using h3
theorem op_box {d:Nat}{t:TypeId}{x:Operand}{k:Sz}(hW:WInv G w) (ho:o.op=.box t x) (hk:(ρ x).hasSz k=true) (hρ:∀x,RepSV G used (ρ x) (act.eval x)) (hn:G.blk (.loc d)=none) :
  OpRes P o act w G used (.one (.ptr (.loc d) 0)) [(.loc d,⟨k,ρ x⟩)] []:=by
 obtain ⟨G',h1,h2,h3,h4,h5,h6⟩:=lay_box (T:=t) hW hn (hasSz_okV (hρ x) hk) (hρ x)
 refine ⟨_,_,G',.inl ?_,by simpa using h4,h1,h2.weaken (fun n e=>by simp[e]) (fun _ h=>h),fun n b hb=>?_,fun t' ht=>.inl (by rw[←h5];exact ht),fun n hn'=>(h6 n hn').imp id (fun e=>by simp[e])⟩
 ·simp[execOp,ho,Instr.box,run_newVar]
 ·simp only[List.mem_singleton,Prod.mk.injEq] at hb
  obtain ⟨rfl,rfl⟩:=hb
  simpa using h3
theorem lay_cells {G:Gh}{w:World}(hW:WInv G w) (u:Value) (T:TypeId) (fr:Nat×Nat:=(0,0)) :
  ∃G',WInv G' (w.alloc (.cells u.cells T fr))∧Ext G G' w (w.alloc (.cells u.cells T fr)) (fun _=>False) (·∈([]:List Nat))∧At G'.I w.heap.size 0 u ∧
   G'.tok=G.tok∧G'.blk=G.blk:=by
 let G':Gh:=⟨fun b o=>if b=w.heap.size then u.cells[o]? else G.I b o,G.blk,G.tok,G.cap⟩
 have hlt:∀{b o v},G.I b o=some v→b≠w.heap.size:=fun hv e=>by have:=imm_lt hW hv;omega
 refine ⟨G',⟨?_,hW.inj,?_,?_,?_,hW.tokInj,hW.tokBlk,fun g hg=>⟨by rw[heap_alloc_lt w _ (hW.glob.lt hg)];exact (hW.glob g hg).1,(hW.glob g hg).2⟩⟩,⟨fun b o v hv=>?_,fun b o v hv=>?_,fun _ _=>rfl,fun _ _ h=>h,fun _ _ h=>.inl h,fun _ _ _ h=>h,fun _ _ _ h _=>.inl h,fun b hb _ _=>heap_alloc_lt w _ hb,by simp,rfl,rfl,rfl,fun _ _=>rfl⟩,?_,rfl,rfl⟩
 ·intro b o v hv
  have hv':(if b=w.heap.size then u.cells[o]? else G.I b o)=some v:=hv
  split at hv'
  ·rename_i e;subst e
   rw[cell_row (heap_alloc_new w _)];exact hv'
  ·have:=hW.imm b o v hv'
   rw[World.cell?_alloc_lt w _ _ (World.block_lt_of_cell? w _ this)];exact this
 ·intro n b hn;have:=hW.lt n b hn;simp;omega
 ·intro n b hn o
  show (if b=w.heap.size then _ else _)=_
  rw[if_neg (by have:=hW.lt n b hn;omega)]
  exact hW.blkImm n b hn o
 ·intro t tk ht
  exact (hW.tokOk t tk ht).keep fun g hg=>⟨heap_alloc_lt w _ (tok_lt hW ht hg),fun o v hv=>by
   have hv':(if g=w.heap.size then u.cells[o]? else G.I g o)=some v:=hv
   rw[if_neg (by have:=tok_lt hW ht hg;omega)] at hv'
   exact hv'⟩
 ·show (if b=w.heap.size then _ else _)=_
  rw[if_neg (hlt hv)];exact hv
 ·have hv':(if b=w.heap.size then u.cells[o]? else G.I b o)=some v:=hv
  split at hv'
  ·rename_i e;exact .inr (.inl (by omega))
  ·exact .inl hv'
 ·intro j v hj
  show (if w.heap.size=w.heap.size then u.cells[0+j]? else _)=_
  rw[if_pos rfl,Nat.zero_add];exact hj
theorem op_boxImm {t:TypeId}{x:Operand}{k:Sz}{p:PV}(hW:WInv G w) (ho:o.op=.box t x) (hp:(ρ x).pv? = some p) (hk:p.hasSz k=true) (hρ:∀x,RepSV G used (ρ x) (act.eval x)) :
  OpRes P o act w G used (.one (.pv (.ep p 0))) [] []:=by
 have hr:=SV.pv_rep (hρ x) hp
 obtain ⟨G',h1,h2,h3,h5,h6⟩:=lay_cells hW (act.eval x) t
 refine ⟨.pointer (some ⟨w.heap.size,0,none⟩),_,G',.inl ?_,?_,h1,h2.weaken (fun _ h=>h.elim) (fun _ h=>h),(by simp),fun t' ht=>.inl (by rw[←h5];exact ht),fun n hn'=>.inl (by rw[←h6];exact hn')⟩
 ·simp[execOp,ho,Instr.box,run_newVar]
 ·simp only[RepSV,RepSC]
  rw[Rep]
  exact ⟨w.heap.size,0,act.eval x,k,by simp,Rep.mono h2.I _ _ hr,hasSz_ok hr hk,h3⟩
theorem op_load {t:TypeId}{a:Operand}{kt:Sz}{v:SV}{n:Nm}{off:Nat}{b:Box}(hW:WInv G w) (ho:o.op=.load t a) (hk:szOf P t=some kt) (ha:ρ a=.one (.ptr n off)) (hb:bx n=some b)
  (hmp:¬b.c.isMp=true) (hv:loadSV b.k b.c off kt=some v) (hρ:∀x,RepSV G used (ρ x) (act.eval x)) (hbx:∀n b,bx n=some b→BoxAt G used w n b):OpRes P o act w G used v [] []:=by
 obtain ⟨g,vs,T,u,h1,h2,rfl,h4,h5⟩:=(hbx n b hb).cells hmp
 have hra:=hρ a
 rw[ha] at hra
 simp only[RepSV,RepSC] at hra
 obtain ⟨g',hg',hae⟩:=hra
 rw[h1] at hg';cases hg'
 obtain ⟨u',h6,h7,h8⟩:=loadSV_sound h5 h4 hv
 refine OpRes.quiet hW u' ?_ h7
 have:=run_loadVar_sz (P:=P) (w:=w) hk (b:=g) (o:=off) h6 (fun j y hj=>by rw[cell_row h2];exact h8 j y hj)
 simp[execOp,ho,Instr.loadAt,hae,Instr.sureAddr,this]
theorem op_loadPV {t:TypeId}{a:Operand}{kt:Sz}{v:SV}{x:PV}{off:Nat}(hW:WInv G w) (ho:o.op=.load t a) (hk:szOf P t=some kt) (ha:ρ a=.one (.pv (.ep x off)))
  (hv:loadPV x off kt=some v) (hρ:∀x,RepSV G used (ρ x) (act.eval x)):OpRes P o act w G used v [] []:=by
 have hra:=hρ a
 rw[ha] at hra
 simp only[RepSV,RepSC] at hra
 rw[Rep] at hra
 obtain ⟨g,og,u,k,hae,hr,hok,hat⟩:=hra
 obtain ⟨u',h6,h7,h8⟩:=loadPV_sound hr hok hv
 refine OpRes.quiet hW u' ?_ h7
 have:=run_loadVar_sz (P:=P) (w:=w) hk (b:=g) (o:=og+off) h6 (fun j y hj=>hW.imm _ _ _ (by rw[Nat.add_assoc];exact hat _ _ (h8 j y hj)))
 simp[execOp,ho,Instr.loadAt,hae,Instr.sureAddr,this]
theorem splice_rep {G:Gh}{used:List Nat}{cs xs:List SC}{vs us:List Value}(h:RepSCs G used cs vs) (h':RepSCs G used xs us) (off:Nat) :
  RepSCs G used (cs.take off++xs++cs.drop (off+xs.length)) (vs.take off++us++vs.drop (off+us.length)):=by
 rw[h'.length]
 exact ((h.take off).append h').append (h.drop _)
theorem op_store {t:TypeId}{a x:Operand}{kt:Sz}{c:SV}{n:Nm}{off:Nat}{b:Box}(hW:WInv G w) (ho:o.op=.store t a x) (hk:szOf P t=some kt) (ha:ρ a=.one (.ptr n off)) (hb:bx n=some b)
  (hmp:¬b.c.isMp=true) (hv:storeSV b.k b.c off kt (ρ x)=some c) (hρ:∀x,RepSV G used (ρ x) (act.eval x)) (hbx:∀n b,bx n=some b→BoxAt G used w n b):OpRes P o act w G used (.one .any) [(n,⟨b.k,c⟩)] []:=by
 obtain ⟨g,vs,T,u,h1,h2,rfl,h4,h5⟩:=(hbx n b hb).cells hmp
 have hra:=hρ a
 rw[ha] at hra
 simp only[RepSV,RepSC] at hra
 obtain ⟨g',hg',hae⟩:=hra
 rw[h1] at hg';cases hg'
 have key:∃u',b.k.okV u'=true∧RepSV G used c u'∧(storeVar t ⟨g,off,none⟩ (act.eval x)).run P w=.ok () (w.setRow g u'.cells):=by
  unfold storeSV at hv
  split at hv
  ·rename_i h0
   split at hv
   ·rename_i hs
    cases hv
    have hok:=hasSz_okV (hρ x) hs
    refine ⟨act.eval x,hok,hρ x,?_⟩
    have:=run_storeVar_sz (P:=P) (w:=w) hk (g:=g) (o:=off) (u:=act.eval x) (by rw[h0.2];exact hok) h2 (by rw[h0.1,h0.2,Sz.size_of_ok h4];omega)
    rw[this,h0.1]
    have h9:(act.eval x).cells.toList.length=u.cells.toList.length:=by rw[Array.length_toList,Array.length_toList,Sz.size_of_ok hok,Sz.size_of_ok h4]
    have h10:List.drop u.cells.size u.cells.toList=[]:=by rw[←Array.length_toList];exact List.drop_length
    simp[h9,h10]
   ·cases hv
  ·split at hv
   ·rename_i cs xs hcs hxs
    split at hv
    ·rename_i hfit
     cases hv
     obtain ⟨vs,rfl,h6,h7⟩:=cells_rep h5 hcs
     obtain ⟨h8,h9⟩:=cellsAt_rep (hρ x) hxs
     have hl1:cs.length=vs.size:=by simpa using h6.length
     have hl2:xs.length=(act.eval x).cells.size:=by simpa using h9.length
     have hl3:=Sz.size_of_ok h8
     have hst:=run_storeVar_sz (P:=P) (w:=w) hk (g:=g) (o:=off) (u:=act.eval x) h8 h2 (by simp only[Value.cells];omega)
     refine ⟨.agg (vs.toList.take off++(act.eval x).cells.toList++vs.toList.drop (off+(act.eval x).cells.toList.length)).toArray,?_,⟨_,rfl,?_,?_⟩,hst⟩
     ·cases hbk:b.k with
      |one=>rw[hbk] at h4;simp[Sz.okV,Value.oneCell'] at h4
      |agg m=>
       rw[hbk] at h4
       simp only[Sz.okV,Bool.and_eq_true,beq_iff_eq,List.all_eq_true] at h4 ⊢
       refine ⟨?_,fun y hy=>?_⟩
       ·simp only[List.size_toArray,List.length_append,List.length_take,List.length_drop,Array.length_toList]
        omega
       ·rcases List.mem_append.1 hy with hy|hy
        ·rcases List.mem_append.1 hy with hy|hy
         ·exact h7 y (List.mem_of_mem_take hy)
         ·exact Sz.cells_one h8 y hy
        ·exact h7 y (List.mem_of_mem_drop hy)
     ·exact splice_rep h6 h9 off
     ·intro y hy
      rcases List.mem_append.1 hy with hy|hy
      ·rcases List.mem_append.1 hy with hy|hy
       ·exact h7 y (List.mem_of_mem_take hy)
       ·exact Sz.cells_one h8 y hy
      ·exact h7 y (List.mem_of_mem_drop hy)
    ·cases hv
   ·cases hv
 obtain ⟨u',hk',hr',hrun⟩:=key
 obtain ⟨h6,h7,h8⟩:=turn_box (G:=G) (used:=used) (n:=n) (k:=b.k) (c:=c) hW h1 h2 hk' hr'
 refine ⟨undef,_,G,.inr ⟨?_,rfl⟩,trivial,h6,h7.weaken (fun n e=>by simp[e]) (fun _ h=>h),fun n' b' hb'=>?_,fun _ h=>.inl h,fun _ h=>.inl h⟩
 ·simp[execOp,ho,Instr.storeAt,hae,Instr.sureAddr,hrun]
 ·simp only[List.mem_singleton,Prod.mk.injEq] at hb'
  obtain ⟨rfl,rfl⟩:=hb'
  simpa using h8
/-! Maps -/
theorem op_makeMap {d:Nat}{t:TypeId}{e:Eff}(hW:WInv G w) (ho:o.op=.makeMap t none) (he:newMap P t d=some e) (hn:G.blk (.loc d)=none):OpRes P o act w G used e.1 e.2.1 e.2.2:=by
 cases he
 obtain ⟨G',h1,h2,h3,h4,h5,h6⟩:=lay_map (used:=used) (k:=.one) (MapCOk.nil (if mapIOf P t=true then .nums [] else .set []) (by split<;>simp)) hW hn
 refine ⟨_,_,G',.inl ?_,by simpa using h4,h1,h2.weaken (fun n e=>by simp[e]) (fun _ h=>h),fun n b hb=>?_,fun t' ht=>.inl (by rw[←h5];exact ht),fun n hn'=>(h6 n hn').imp id (fun e=>by simp[e])⟩
 ·simp[execOp,ho,Instr.makeMap]
 ·simp only[List.mem_singleton,Prod.mk.injEq] at hb
  obtain ⟨rfl,rfl⟩:=hb
  simpa using h3
theorem mapIOf_spec {P:Program}{t:TypeId}(h:mapIOf P t=true):∃k e i,P.underlying t=some (.map k e)∧P.underlying k=some (.int .i64)∧P.info? e=some i∧i.zero=some (.int .i64 0):=by
 unfold mapIOf at h
 split at h
 ·rename_i k e ht
  simp only[Bool.and_eq_true] at h
  obtain ⟨h1,h2⟩:=h
  split at h2
  ·rename_i i hi
   refine ⟨k,e,i,ht,?_,hi,?_⟩
   ·split at h1
    ·assumption
    ·cases h1
   ·split at h2
    ·rename_i z hz
     rw[hz,show z=0 by simpa using h2]
    ·cases h2
  ·cases h2
 ·cases h
theorem op_makeMapR {d:Nat}{t:TypeId}{x:Operand}{y:Int}{e:Eff}(hW:WInv G w) (ho:o.op=.makeMap t (some x)) (hx:ρ x=.one (.pv (.int .i64 y))) (ht:mapIOf P t=true) (he:newMap P t d=some e) (hρ:∀x,RepSV G used (ρ x) (act.eval x)) (hn:G.blk (.loc d)=none) :
  OpRes P o act w G used e.1 e.2.1 e.2.2:=by
 cases he
 have e2:=hρ x
 rw[hx] at e2
 simp only[RepSV,RepSC,Rep] at e2
 obtain ⟨kt,et,i,ht1,_⟩:=mapIOf_spec ht
 obtain ⟨G',h1,h2,h3,h4,h5,h6⟩:=lay_map (used:=used) (k:=.one) (MapCOk.nil (if mapIOf P t=true then .nums [] else .set []) (by split<;>simp)) hW hn
 refine ⟨_,_,G',.inl ?_,by simpa using h4,h1,h2.weaken (fun n e=>by simp[e]) (fun _ h=>h),fun n b hb=>?_,fun t' ht=>.inl (by rw[←h5];exact ht),fun n hn'=>(h6 n hn').imp id (fun e=>by simp[e])⟩
 ·simp[execOp,ho,Instr.makeMap,run_underlying ht1,e2,asInt,asIntOf,Result.andThen]
 ·simp only[List.mem_singleton,Prod.mk.injEq] at hb
  obtain ⟨rfl,rfl⟩:=hb
  simpa using h3
theorem findI_now (i:Int):∀(l:List MapEntry) (ks:List (Int×Int)) (j:Nat),l.map (·.key)=ks.map (fun k=>Value.int .i64 k.1)→l.map (·.val)=ks.map (fun k=>Value.int .i64 k.2) →
  (∀v,findI ks i=some v→∃m,Instr.findNow (.int .i64) (.int .i64 i) l j=some (some (j+m,.int .i64 v)))∧(findI ks i=none→Instr.findNow (.int .i64) (.int .i64 i) l j=some none)
 | [],ks,j,h,_=>by
  have:ks=[]:=by simpa using h.symm
  subst this
  exact ⟨fun v h=>by simp[findI] at h,fun _=>rfl⟩
 |e::l,[],j,h,_=>by simp at h
 |e::l,k::ks,j,h,hv=>by
  simp only[List.map_cons,List.cons.injEq] at h hv
  obtain ⟨ih1,ih2⟩:=findI_now i l ks (j+1) h.2 hv.2
  have hs:Instr.sameNow (.int .i64) (.int .i64 i) e.key=some (i==k.1):=by rw[h.1];simp[Instr.sameNow]
  simp only[findI]
  by_cases hik:i=k.1
  ·have hb:(i==k.1)=true:=by simpa using hik
   rw[if_pos hik]
   refine ⟨fun v hv'=>⟨0,?_⟩,fun hn=>by cases hn⟩
   cases hv'
   simp only[Instr.findNow,hs,hb,hv.1,Nat.add_zero]
  ·have hb:(i==k.1)=false:=by simpa using hik
   rw[if_neg hik]
   refine ⟨fun v hv'=>?_,fun hn=>?_⟩
   ·obtain ⟨m,h1⟩:=ih1 v hv'
    refine ⟨m+1,?_⟩
    simp only[Instr.findNow,hs,hb,h1]
    congr 3;omega
   ·simp only[Instr.findNow,hs,hb]
    exact ih2 hn
theorem findI_none {i:Int}:∀{ks:List (Int×Int)},i∉ks.map (·.1)→findI ks i=none
 | [],_=>rfl
 |k::ks,h=>by
  simp only[List.map_cons,List.mem_cons,not_or] at h
  rw[findI,if_neg h.1,findI_none h.2]
theorem op_mapUpdateI {t:TypeId}{m x v:Operand}{n:Nm}{k:Sz}{ks:List (Int×Int)}{i y:Int}(hW:WInv G w) (ho:o.op=.insert t m x v) (ht:mapIOf P t=true) (hm:ρ m=.one (.mp n)) (hx:ρ x=.one (.pv (.int .i64 i))) (hv:ρ v=.one (.pv (.int .i64 y)))
  (hb:bx n=some ⟨k,.one (.mpc (.nums ks))⟩) (hi:i∉ks.map (·.1)) (hρ:∀x,RepSV G used (ρ x) (act.eval x)) (hbx:∀n b,bx n=some b→BoxAt G used w n b):OpRes P o act w G used (.one .any) [(n,⟨k,.one (.mpc (.nums (ks++[(i,y)])))⟩)] []:=by
 obtain ⟨g,es,clock,h1,h2,h3,h4⟩:=(hbx n _ hb).map
 have e1:=hρ m
 have e2:=hρ x
 have e3:=hρ v
 rw[hm] at e1
 rw[hx] at e2
 rw[hv] at e3
 simp only[RepSV,RepSC,Rep] at e1 e2 e3
 obtain ⟨g',hg',e1⟩:=e1
 rw[h1] at hg';cases hg'
 obtain ⟨kt,et,_,ht1,ht2,_⟩:=mapIOf_spec ht
 have hlt:g<w.heap.size:=hW.lt _ _ h1
 have hK:Go.MapKept.IsKey (.int .i64) (.int .i64 i):=by simp[Go.MapKept.IsKey]
 have g1:=(findI_now i es.toList ks 0 h3 h4).2 (findI_none hi)
 have hrun:(Instr.mapUpdate t (.map (some g)) (.int .i64 i) (.int .i64 y)).run P w=.ok () {w with heap:=w.heap.setIfInBounds g (.map (es.push ⟨.int .i64 i,.int .i64 y,clock⟩) (clock+1))}:=by
  simp[Instr.mapUpdate,run_underlying ht1,Go.MapKept.run_getObj_map h2,Go.MapKept.run_checkKey ht2 hK,Go.MapKept.run_findKey ht2 g1,Go.MapKept.run_setObj_map _ h2,Result.andThen]
 have hok:MapCOk (es.push ⟨.int .i64 i,.int .i64 y,clock⟩) (clock+1) (.nums (ks++[(i,y)])):=⟨by simp[h3],by simp[h4]⟩
 generalize es.push ⟨.int .i64 i,.int .i64 y,clock⟩=es' at hrun hok
 have hnew:(w.heap.setIfInBounds g (.map es' (clock+1)))[g]? = some (.map es' (clock+1)):=by simp[hlt]
 obtain ⟨q1,q2⟩:=turn_obj (w':={w with heap:=w.heap.setIfInBounds g (.map es' (clock+1))}) hW h1 (fun b' h=>by simp[Array.getElem?_setIfInBounds];intro e;exact absurd e.symm h) (by simp) rfl rfl rfl
 refine ⟨undef,_,G,.inr ⟨?_,rfl⟩,trivial,q1,q2.weaken (fun n e=>by simp[e]) (fun _ h=>h),fun n' b' hb'=>?_,fun _ h=>.inl h,fun _ h=>.inl h⟩
 ·simp[execOp,ho,e1,e2,e3,hrun]
 ·simp only[List.mem_singleton,Prod.mk.injEq] at hb'
  obtain ⟨rfl,rfl⟩:=hb'
  exact .inr (.inl ⟨g,_,es',clock+1,h1,hnew,rfl,hok⟩)
theorem op_lookup {t:TypeId}{m x:Operand}{ok:Bool}{n:Nm}{k:Sz}{ks:List (Int×Int)}{i:Int}(hW:WInv G w) (ho:o.op=.lookup t m x ok) (ht:mapIOf P t=true) (hm:ρ m=.one (.mp n)) (hx:ρ x=.one (.pv (.int .i64 i)))
  (hb:bx n=some ⟨k,.one (.mpc (.nums ks))⟩) (hρ:∀x,RepSV G used (ρ x) (act.eval x)) (hbx:∀n b,bx n=some b→BoxAt G used w n b):OpRes P o act w G used (.one (.pv (lookI ok (findI ks i)))) [] []:=by
 obtain ⟨g,es,clock,h1,h2,h3,h4⟩:=(hbx n _ hb).map
 have e1:=hρ m
 have e2:=hρ x
 rw[hm] at e1
 rw[hx] at e2
 simp only[RepSV,RepSC,Rep] at e1 e2
 obtain ⟨g',hg',e1⟩:=e1
 rw[h1] at hg';cases hg'
 obtain ⟨kt,et,j,ht1,ht2,ht3,ht4⟩:=mapIOf_spec ht
 have hK:Go.MapKept.IsKey (.int .i64) (.int .i64 i):=by simp[Go.MapKept.IsKey]
 obtain ⟨f1,f2⟩:=findI_now i es.toList ks 0 h3 h4
 have hrun:∃u,(Instr.lookup t (.map (some g)) (.int .i64 i) ok).run P w=.ok u w∧Rep G.I (lookI ok (findI ks i)) u:=by
  cases hf:findI ks i with
  |some v=>
   obtain ⟨m',g1⟩:=f1 v hf
   refine ⟨if ok then .tuple #[.int .i64 v,.bool true] else .int .i64 v,?_,?_⟩
   ·simp[Instr.lookup,run_underlying ht1,Go.MapKept.run_getObj_map h2,Go.MapKept.run_checkKey ht2 hK,Go.MapKept.run_findKey ht2 g1,Result.andThen]
   ·cases ok<;>simp[lookI,Rep,RepL]
  |none=>
   have g1:=f2 hf
   refine ⟨if ok then .tuple #[.int .i64 0,.bool false] else .int .i64 0,?_,?_⟩
   ·simp[Instr.lookup,run_underlying ht1,Go.MapKept.run_getObj_map h2,Go.MapKept.run_checkKey ht2 hK,Go.MapKept.run_findKey ht2 g1,Result.andThen,zeroValue,run_typeInfo ht3,ht4]
   ·cases ok<;>simp[lookI,Rep,RepL]
 obtain ⟨u,hrun,hu⟩:=hrun
 refine OpRes.quiet hW u ?_ (by simpa [RepSV,RepSC] using hu)
 simp[execOp,ho,e1,e2,hrun]
theorem mapTOf_spec {P:Program}{t:TypeId}(h:mapTOf P t=true):∃k e,P.underlying t=some (.map k e)∧P.underlying k=some (.int .i64)∧P.underlying e=some .bool:=by
 unfold mapTOf at h
 split at h
 ·rename_i k e ht
  simp only[Bool.and_eq_true] at h
  refine ⟨k,e,ht,?_,?_⟩
  ·have:=h.1;split at this
   ·assumption
   ·cases this
  ·have:=h.2;split at this
   ·assumption
   ·cases this
 ·cases h
theorem findNow_keys (i:Int):∀(l:List MapEntry) (ks:List Int) (j:Nat),l.map (·.key)=ks.map (Value.int .i64)→(∀e∈l,e.val=.bool true) →
  (i∈ks→∃m,Instr.findNow (.int .i64) (.int .i64 i) l j=some (some (j+m,.bool true))∧∃e,l[m]? = some e∧e.key=.int .i64 i∧e.val=.bool true)∧(i∉ks→Instr.findNow (.int .i64) (.int .i64 i) l j=some none)
 | [],ks,j,h,_=>by
  have:ks=[]:=by simpa using h.symm
  subst this
  exact ⟨fun h=>by simp at h,fun _=>rfl⟩
 |e::l,[],j,h,_=>by simp at h
 |e::l,k::ks,j,h,hv=>by
  simp only[List.map_cons,List.cons.injEq] at h
  obtain ⟨ih1,ih2⟩:=findNow_keys i l ks (j+1) h.2 fun x hx=>hv x (List.mem_cons_of_mem _ hx)
  have hs:Instr.sameNow (.int .i64) (.int .i64 i) e.key=some (i==k):=by rw[h.1];simp[Instr.sameNow]
  by_cases hik:i=k
  ·refine ⟨fun _=>⟨0,?_,e,rfl,by rw[h.1,hik],hv e (by simp)⟩,fun hn=>absurd (by simp[hik]) hn⟩
   have hb:(i==k)=true:=by simpa using hik
   simp only[Instr.findNow,hs,hb,hv e (by simp),Nat.add_zero]
  ·have hb:(i==k)=false:=by simpa using hik
   refine ⟨fun hm=>?_,fun hn=>?_⟩
   ·obtain ⟨m,h1,x,h2,h3⟩:=ih1 ((List.mem_cons.1 hm).resolve_left hik)
    refine ⟨m+1,?_,x,by simpa using h2,h3⟩
    simp only[Instr.findNow,hs,hb,h1]
    congr 3;omega
   ·simp only[Instr.findNow,hs,hb]
    exact ih2 fun hm=>hn (List.mem_cons_of_mem _ hm)
theorem op_mapUpdate {t:TypeId}{m x v:Operand}{n:Nm}{k:Sz}{ks:List Int}{i:Int}(hW:WInv G w) (ho:o.op=.mapUpdate t m x v) (ht:mapTOf P t=true) (hm:ρ m=.one (.mp n)) (hx:ρ x=.one (.pv (.int .i64 i))) (hv:ρ v=.one (.pv (.bool true)))
  (hb:bx n=some ⟨k,.one (.mpc (.set ks))⟩) (hρ:∀x,RepSV G used (ρ x) (act.eval x)) (hbx:∀n b,bx n=some b→BoxAt G used w n b):OpRes P o act w G used (.one .any) [(n,⟨k,.one (.mpc (.set (addK ks i)))⟩)] []:=by
 obtain ⟨g,es,clock,h1,h2,h3,h4,h5,h6⟩:=(hbx n _ hb).map
 have e1:=hρ m
 have e2:=hρ x
 have e3:=hρ v
 rw[hm] at e1
 rw[hx] at e2
 rw[hv] at e3
 simp only[RepSV,RepSC,Rep] at e1 e2 e3
 obtain ⟨g',hg',e1⟩:=e1
 rw[h1] at hg';cases hg'
 obtain ⟨kt,et,ht1,ht2,ht3⟩:=mapTOf_spec ht
 have hlt:g<w.heap.size:=hW.lt _ _ h1
 have key:∃es' clock',(Instr.mapUpdate t (.map (some g)) (.int .i64 i) (.bool true)).run P w=.ok () {w with heap:=w.heap.setIfInBounds g (.map es' clock')}∧MapOk es' clock' (addK ks i):=by
  have hK:Go.MapKept.IsKey (.int .i64) (.int .i64 i):=by simp[Go.MapKept.IsKey]
  obtain ⟨f1,f2⟩:=findNow_keys i es.toList ks 0 h3 fun e he=>(h5 e he).1
  by_cases hi:i∈ks
  ·obtain ⟨j,g1,e,g2,g3,g4⟩:=f1 hi
   refine ⟨es,clock,?_,by rw[addK,if_pos hi];exact ⟨h3,h4,h5,h6⟩⟩
   rw[Nat.zero_add] at g1
   have hj:es[j]? = some e:=by simpa using g2
   have hmod:es.modify j (fun e=>{e with key:=Value.int .i64 i,val:=.bool true})=es:=by
    refine Array.ext (by simp) fun m hm1 hm2=>?_
    rw[Array.getElem_modify]
    split
    ·rename_i hjm
     subst hjm
     have:es[j]=e:=by
      have:=Array.getElem?_eq_getElem hm2
      rw[hj] at this;cases this;rfl
     rw[this]
     cases e
     simp only at g3 g4
     rw[g3,g4]
    ·rfl
   have hset:(w.heap.setIfInBounds g (.map es clock))=w.heap:=by
    refine Array.ext (by simp) fun m hm1 hm2=>?_
    rw[Array.getElem_setIfInBounds]
    split
    ·rename_i hgm
     subst hgm
     have:=Array.getElem?_eq_getElem hm2
     rw[h2] at this
     exact Option.some.inj this
    ·rfl
   simp[Instr.mapUpdate,run_underlying ht1,Go.MapKept.run_getObj_map h2,Go.MapKept.run_checkKey ht2 hK,Go.MapKept.run_findKey ht2 g1,hj,g3,Go.MapKept.run_keyThatStays hK,Go.MapKept.run_setObj_map _ h2,Result.andThen,hmod]
  ·have g1:=f2 hi
   refine ⟨es.push ⟨.int .i64 i,.bool true,clock⟩,clock+1,?_,?_⟩
   ·simp[Instr.mapUpdate,run_underlying ht1,Go.MapKept.run_getObj_map h2,Go.MapKept.run_checkKey ht2 hK,Go.MapKept.run_findKey ht2 g1,Go.MapKept.run_setObj_map _ h2,Result.andThen]
   ·rw[addK,if_neg hi]
    refine ⟨by simp[h3],?_,?_,?_⟩
    ·rw[List.nodup_append]
     refine ⟨h4,by simp,?_⟩
     intro a ha b hb e
     rw[List.mem_singleton.1 hb] at e
     exact hi (by rw[←e];exact ha)
    ·intro e he
     simp only[Array.toList_push,List.mem_append,List.mem_singleton] at he
     rcases he with he|rfl
     ·exact ⟨(h5 e he).1,by have:=(h5 e he).2;omega⟩
     ·exact ⟨rfl,by simp⟩
    ·simp only[Array.toList_push,List.map_append,List.map_cons,List.map_nil]
     rw[List.nodup_append]
     refine ⟨h6,by simp,?_⟩
     intro a ha b hb e
     rw[List.mem_singleton.1 hb] at e
     obtain ⟨x,hx,rfl⟩:=List.mem_map.1 ha
     have:=(h5 x hx).2
     omega
 obtain ⟨es',clock',hrun,hok⟩:=key
 have hnew:(w.heap.setIfInBounds g (.map es' clock'))[g]? = some (.map es' clock'):=by simp[hlt]
 obtain ⟨q1,q2⟩:=turn_obj (w':={w with heap:=w.heap.setIfInBounds g (.map es' clock')}) hW h1 (fun b' h=>by simp[Array.getElem?_setIfInBounds];intro e;exact absurd e.symm h) (by simp) rfl rfl rfl
 refine ⟨undef,_,G,.inr ⟨?_,rfl⟩,trivial,q1,q2.weaken (fun n e=>by simp[e]) (fun _ h=>h),fun n' b' hb'=>?_,fun _ h=>.inl h,fun _ h=>.inl h⟩
 ·simp[execOp,ho,e1,e2,e3,hrun]
 ·simp only[List.mem_singleton,Prod.mk.injEq] at hb'
  obtain ⟨rfl,rfl⟩:=hb'
  exact .inr (.inl ⟨g,_,es',clock',h1,hnew,rfl,hok⟩)
end ops
end Go.Abs
namespace Go.Abs
open Go
section ops
variable {P:Program}{o:Oper}{act:Act}{w:World}{G:Gh}{used:List Nat}{ρ:Operand→SV}{bx:Nm→Option Box}
theorem op_move {x:Operand}(hW:WInv G w) (ho:o.op=.move x∨o.op=.assign x) (hρ:∀x,RepSV G used (ρ x) (act.eval x)):OpRes P o act w G used (ρ x) [] []:=by
 refine OpRes.quiet hW (act.eval x) ?_ (hρ x)
 rcases ho with ho|ho<;>simp[execOp,ho]
theorem op_pick {c a b:Operand}{r:Bool}(hW:WInv G w) (ho:o.op=.pick c a b) (hc:ρ c=.one (.pv (.bool r))) (hρ:∀x,RepSV G used (ρ x) (act.eval x)) :
  OpRes P o act w G used (if r then ρ a else ρ b) [] []:=by
 have h:=hρ c
 rw[hc] at h
 simp only[RepSV,RepSC,Rep] at h
 refine OpRes.quiet hW (if r then act.eval a else act.eval b) ?_ ?_
 ·cases r<;>simp[execOp,ho,h,asBool]
 ·cases r<;>simp[hρ]
theorem op_nilCheck_ptr {x:Operand}{n:Nm}{off:Nat}(hW:WInv G w) (ho:o.op=.nilCheck x) (hx:ρ x=.one (.ptr n off)) (hρ:∀x,RepSV G used (ρ x) (act.eval x)) :
  OpRes P o act w G used (.one (.ptr n off)) [] []:=by
 have h:=hρ x
 rw[hx] at h
 refine OpRes.quiet hW (act.eval x) ?_ h
 simp only[RepSV,RepSC] at h
 obtain ⟨b,_,he⟩:=h
 simp[execOp,ho,he]
theorem op_nilCheck_ep {x:Operand}{y:PV}{off:Nat}(hW:WInv G w) (ho:o.op=.nilCheck x) (hx:ρ x=.one (.pv (.ep y off))) (hρ:∀x,RepSV G used (ρ x) (act.eval x)) :
  OpRes P o act w G used (.one (.pv (.ep y off))) [] []:=by
 have h:=hρ x
 rw[hx] at h
 refine OpRes.quiet hW (act.eval x) ?_ h
 simp only[RepSV,RepSC] at h
 rw[Rep] at h
 obtain ⟨b,o',u,k,he,_⟩:=h
 simp[execOp,ho,he]
theorem op_nilCheck_fx {x:Operand}{ps:List PV}{e:PV}(hW:WInv G w) (ho:o.op=.nilCheck x) (hx:ρ x=.one (.pv (.fx ps e))) (hρ:∀x,RepSV G used (ρ x) (act.eval x)) :
  OpRes P o act w G used (.one (.pv (.fx ps e))) [] []:=by
 have h:=hρ x
 rw[hx] at h
 refine OpRes.quiet hW (act.eval x) ?_ h
 simp only[RepSV,RepSC] at h
 rw[Rep] at h
 obtain ⟨b1,b2,us,u,he,_⟩:=h
 simp[execOp,ho,he]
theorem op_nilCheck_fxc {x:Operand}{ps:List PV}{e:PV}(hW:WInv G w) (ho:o.op=.nilCheck x) (hx:ρ x=.one (.pv (.fxc ps e))) (hρ:∀x,RepSV G used (ρ x) (act.eval x)) :
  OpRes P o act w G used (.one (.pv (.fxc ps e))) [] []:=by
 have h:=hρ x
 rw[hx] at h
 refine OpRes.quiet hW (act.eval x) ?_ h
 simp only[RepSV,RepSC] at h
 rw[Rep] at h
 obtain ⟨b1,b2,us,u,he,_⟩:=h
 simp[execOp,ho,he]
theorem op_nilCheck_pfn {x:Operand}{f:FuncId}{ps:List PV}(hW:WInv G w) (ho:o.op=.nilCheck x) (hx:ρ x=.one (.pv (.fn f ps))) (hρ:∀x,RepSV G used (ρ x) (act.eval x)) :
  OpRes P o act w G used (.one (.pv (.fn f ps))) [] []:=by
 have h:=hρ x
 rw[hx] at h
 refine OpRes.quiet hW (act.eval x) ?_ h
 simp only[RepSV,RepSC] at h
 rw[Rep] at h
 obtain ⟨cv,he,_⟩:=h
 simp[execOp,ho,he]
theorem op_nilCheck_fn {x:Operand}{f:FuncId}{cs:List Cap}(hW:WInv G w) (ho:o.op=.nilCheck x) (hx:ρ x=.one (.fn f cs)) (hρ:∀x,RepSV G used (ρ x) (act.eval x)) :
  OpRes P o act w G used (.one (.fn f cs)) [] []:=by
 have h:=hρ x
 rw[hx] at h
 refine OpRes.quiet hW (act.eval x) ?_ h
 simp only[RepSV,RepSC] at h
 obtain ⟨cv,he,_⟩:=h
 simp[execOp,ho,he]
theorem run_binInt {op:BinOp}{k:IntKind}{t:TypeId}{a b:Int}{p:PV}
   (h:(match arithOp op k a b with
      |some n=>some (PV.int k n)
      |none=>match cmpOp op a b with
        |some r=>some (.bool r)
        |none=>none)=some p):∃v,(binOp op t (.int k a) (.int k b)).run P w=.ok v w∧∀I,Rep I p v:=by
 cases op<;>simp[arithOp,cmpOp] at h
 case quo=>
   split at h
   · rename_i n hn
     split at hn
     · cases hn
     · rename_i h0
       simp at hn;subst hn;cases h
       exact ⟨.int k (k.wrap (a.tdiv b)),by simp[binOp,Op.intDiv,h0],fun I=>by simp[Rep]⟩
   · cases h
 case rem=>
   split at h
   · rename_i n hn
     split at hn
     · cases hn
     · rename_i h0
       simp at hn;subst hn;cases h
       exact ⟨.int k (a.tmod b),by simp[binOp,Op.intDiv,h0],fun I=>by simp[Rep]⟩
   · cases h
 all_goals
   subst h
   exact ⟨_,by simp[binOp,Op.intArith,Op.intCmp];rfl,fun I=>by simp[Rep]⟩
theorem run_binStr {op:BinOp}{t:TypeId}{a b:ByteArray}{p:PV}(h:strOp op a b=some p):∃v,(binOp op t (.string a) (.string b)).run P w=.ok v w∧∀I,Rep I p v:=by
 cases op<;>simp[strOp] at h
 case add=>
  obtain ⟨h0,rfl⟩:=h
  have h1:((a.size+b.size:Nat):Int)≤IntKind.i64.max:=by rw[show IntKind.i64.max=9223372036854775807 from rfl];omega
  have h2:(a.size:Int)+(b.size:Int)≤IntKind.i64.max:=by rw[show IntKind.i64.max=9223372036854775807 from rfl];omega
  exact ⟨.string (a++b),by simp[binOp,Op.stringOp,h1,h2];omega,fun I=>by simp[Rep]⟩
 all_goals
  subst h
  refine ⟨_,by simp[binOp,Op.stringOp];rfl,fun I=>by simp[Rep]⟩
theorem eqGuard_plain (op:BinOp) (t:TypeId) (x y:Operand) (u u':Value) (h1:u≠.nilIface) (h2:∀cs,u≠.agg cs):(eqGuard op t x y u u').run P w=.ok () w:=by
 cases op<;>first|rfl | (cases u<;>first|rfl|exact absurd rfl h1|exact absurd rfl (h2 _))
theorem eqGuard_nils (op:BinOp) (t:TypeId) (x y:Operand) (h:(isCst x||isCst y)=true):(eqGuard op t x y .nilIface .nilIface).run P w=.ok () w:=by
 cases op<;>first|rfl | (cases x<;>cases y<;>first|rfl | (simp[isCst] at h;done))
theorem eqGuard_mixed (op:BinOp) (t:TypeId) (x y:Operand) (t1:TypeId) (u:Value):(eqGuard op t x y .nilIface (.iface t1 u)).run P w=.ok () w∧(eqGuard op t x y (.iface t1 u) .nilIface).run P w=.ok () w:=by
 constructor<;>cases op<;>rfl
theorem eqPV_cases {T:EqT}{cst:Bool}{a b:PV}{r:Bool}(h:eqPV T cst a b=some r) :
  (∃x y,T=.bool∧a=.bool x∧b=.bool y∧r=(x==y))∨(T=.iface∧cst=true∧a=.nili∧b=.nili∧r=true)∨(T=.iface∧a=.nili∧b=.err∧r=false) ∨
  (T=.iface∧a=.err∧b=.nili∧r=false)∨(T=.ptr∧a=.nilp∧b=.nilp∧r=true)∨(T=.ptr∧(∃x off,a=.ep x off)∧b=.nilp∧r=false) ∨
  (T=.ptr∧a=.nilp∧(∃x off,b=.ep x off)∧r=false):=by
 unfold eqPV at h
 split at h
 ·rename_i x y;cases h;exact .inl ⟨x,y,rfl,rfl,rfl,rfl⟩
 ·split at h
  ·rename_i hc;cases h;exact .inr (.inl ⟨rfl,hc,rfl,rfl,rfl⟩)
  ·cases h
 ·cases h;exact .inr (.inr (.inl ⟨rfl,rfl,rfl,rfl⟩))
 ·cases h;exact .inr (.inr (.inr (.inl ⟨rfl,rfl,rfl,rfl⟩)))
 ·cases h;exact .inr (.inr (.inr (.inr (.inl ⟨rfl,rfl,rfl,rfl⟩))))
 ·rename_i x off;cases h;exact .inr (.inr (.inr (.inr (.inr (.inl ⟨rfl,⟨x,off,rfl⟩,rfl,rfl⟩)))))
 ·rename_i x off;cases h;exact .inr (.inr (.inr (.inr (.inr (.inr ⟨rfl,rfl,⟨x,off,rfl⟩,rfl⟩)))))
 ·cases h
theorem equal_unfold (t:TypeId) (x y:Value):Op.equal t x y=Op.equalIn (9999+1) t x y:=rfl
structure EqOk (P:Program) (w:World) (op:BinOp) (t:TypeId) (x y:Operand) (u u':Value) (r:Bool):Prop where
 guard:(eqGuard op t x y u u').run P w=.ok () w
 eql:(binOp .eql t u u').run P w=.ok (.bool r) w
 neq:(binOp .neq t u u').run P w=.ok (.bool (!r)) w
theorem eqOk {op:BinOp}{t:TypeId}{x y:Operand}{a b:PV}{r:Bool}{u u':Value}{I:Imm}(h:eqPV (eqTOf P t) (isCst x||isCst y) a b=some r) (ha:Rep I a u) (hb:Rep I b u'):EqOk P w op t x y u u' r:=by
 rcases eqPV_cases h with ⟨p,q,hT,rfl,rfl,rfl⟩|⟨hT,hc,rfl,rfl,rfl⟩|⟨hT,rfl,rfl,rfl⟩|⟨hT,rfl,rfl,rfl⟩|⟨hT,rfl,rfl,rfl⟩|⟨hT,⟨z,off,rfl⟩,rfl,rfl⟩|⟨hT,rfl,⟨z,off,rfl⟩,rfl⟩
 ·have hu:=eqTOf_bool hT
  simp only[Rep] at ha hb
  subst ha;subst hb
  have he:(Op.equal t (.bool p) (.bool q)).run P w=.ok (p==q) w:=by rw[equal_unfold,Op.equalIn];simp[run_underlying hu]
  exact ⟨eqGuard_plain _ _ _ _ _ _ (by simp) (by simp),by simp only[binOp];simp[he],by simp only[binOp];simp[he]⟩
 ·obtain ⟨ms,hu⟩:=eqTOf_iface hT
  simp only[Rep] at ha hb
  subst ha;subst hb
  have he:(Op.equal t .nilIface .nilIface).run P w=.ok true w:=by rw[equal_unfold,Op.equalIn];simp[run_underlying hu]
  exact ⟨eqGuard_nils _ _ _ _ hc,by simp only[binOp];simp[he],by simp only[binOp];simp[he]⟩
 ·obtain ⟨ms,hu⟩:=eqTOf_iface hT
  simp only[Rep] at ha hb
  obtain ⟨t1,v1,rfl⟩:=hb
  subst ha
  have he:(Op.equal t .nilIface (.iface t1 v1)).run P w=.ok false w:=by rw[equal_unfold,Op.equalIn];simp[run_underlying hu]
  exact ⟨(eqGuard_mixed _ _ _ _ _ _).1,by simp only[binOp];simp[he],by simp only[binOp];simp[he]⟩
 ·obtain ⟨ms,hu⟩:=eqTOf_iface hT
  simp only[Rep] at ha hb
  obtain ⟨t1,v1,rfl⟩:=ha
  subst hb
  have he:(Op.equal t (.iface t1 v1) .nilIface).run P w=.ok false w:=by rw[equal_unfold,Op.equalIn];simp[run_underlying hu]
  exact ⟨(eqGuard_mixed _ _ _ _ _ _).2,by simp only[binOp];simp[he],by simp only[binOp];simp[he]⟩
 ·obtain ⟨e,hu⟩:=eqTOf_ptr hT
  simp only[Rep] at ha hb
  subst ha;subst hb
  have he:(Op.equal t (.pointer none) (.pointer none)).run P w=.ok true w:=by rw[equal_unfold,Op.equalIn];simp[run_underlying hu]
  exact ⟨eqGuard_plain _ _ _ _ _ _ (by simp) (by simp),by simp only[binOp];simp[he],by simp only[binOp];simp[he]⟩
 ·obtain ⟨e,hu⟩:=eqTOf_ptr hT
  simp only[Rep] at ha hb
  obtain ⟨b1,o1,u1,k1,rfl,_⟩:=ha
  subst hb
  have he:(Op.equal t (.pointer (some ⟨b1,o1+off,none⟩)) (.pointer none)).run P w=.ok false w:=by rw[equal_unfold,Op.equalIn];simp[run_underlying hu]
  exact ⟨eqGuard_plain _ _ _ _ _ _ (by simp) (by simp),by simp only[binOp];simp[he],by simp only[binOp];simp[he]⟩
 ·obtain ⟨e,hu⟩:=eqTOf_ptr hT
  simp only[Rep] at ha hb
  obtain ⟨b1,o1,u1,k1,rfl,_⟩:=hb
  subst ha
  have he:(Op.equal t (.pointer none) (.pointer (some ⟨b1,o1+off,none⟩))).run P w=.ok false w:=by rw[equal_unfold,Op.equalIn];simp[run_underlying hu]
  exact ⟨eqGuard_plain _ _ _ _ _ _ (by simp) (by simp),by simp only[binOp];simp[he],by simp only[binOp];simp[he]⟩
theorem op_binOp {op:BinOp}{t t':TypeId}{x y:Operand}{a b p:PV}(hW:WInv G w) (ho:o.op=.binOp op t x y t') (ha:(ρ x).pv? = some a) (hb:(ρ y).pv? = some b)
  (hp:binPV (eqTOf P t) (isCst x||isCst y) op a b=some p) (hρ:∀x,RepSV G used (ρ x) (act.eval x)):OpRes P o act w G used (.one (.pv p)) [] []:=by
 have hra:=SV.pv_rep (hρ x) ha
 have hrb:=SV.pv_rep (hρ y) hb
 have fin:∀v,(eqGuard op t x y (act.eval x) (act.eval y)).run P w=.ok () w→(binOp op t (act.eval x) (act.eval y)).run P w=.ok v w→Rep G.I p v→OpRes P o act w G used (.one (.pv p)) [] []:=by
  intro v h1 h2 h3
  refine OpRes.quiet hW v ?_ (by simpa [RepSV,RepSC] using h3)
  simp[execOp,ho,h1,h2]
 unfold binPV at hp
 split at hp
 ·simp only[Rep] at hra hrb
  split at hp
  ·rename_i hk
   subst hk
   obtain ⟨v,h1,h2⟩:=run_binInt (P:=P) (w:=w) (t:=t) hp
   exact fin v (by rw[hra];exact eqGuard_plain op t x y _ _ (by simp) (by simp)) (by rw[hra,hrb];exact h1) (h2 _)
  ·cases hp
 ·simp only[Rep] at hra hrb
  obtain ⟨v,h1,h2⟩:=run_binStr (P:=P) (w:=w) (t:=t) hp
  exact fin v (by rw[hra];exact eqGuard_plain op t x y _ _ (by simp) (by simp)) (by rw[hra,hrb];exact h1) (h2 _)
 ·split at hp
  ·simp only[Option.map_eq_some_iff] at hp
   obtain ⟨r,hr,rfl⟩:=hp
   have h:=eqOk (w:=w) (op:=.eql) hr hra hrb
   exact fin (.bool r) h.guard h.eql (by simp[Rep])
  ·simp only[Option.map_eq_some_iff] at hp
   obtain ⟨r,hr,rfl⟩:=hp
   have h:=eqOk (w:=w) (op:=.neq) hr hra hrb
   exact fin (.bool (!r)) h.guard h.neq (by simp[Rep])
  ·cases hp
theorem op_nilCmp {op:BinOp}{t t':TypeId}{x y:Operand}{b:Bool}(hW:WInv G w) (ho:o.op=.binOp op t x y t') (h:nilCmp P op t (ρ x) y=some b) (hρ:∀x,RepSV G used (ρ x) (act.eval x)):OpRes P o act w G used (.one (.pv (.bool b))) [] []:=by
 unfold nilCmp at h
 split at h
 ·rename_i hy
  split at h
  ·rename_i e es el hx hel
   cases h
   have hr:=hρ x
   rw[hx] at hr
   simp only[RepSV,RepSC,Rep] at hr
   obtain ⟨a,len,cap,k,hv,_,_,_,h5⟩:=hr
   rcases h5 with h5|⟨b1,o1,rfl,_⟩
   ·cases h5
   ·have hyv:act.eval y=.slice none 0 0:=by
     unfold isNilC at hy
     split at hy
     ·rfl
     ·cases hy
    have hu:P.underlying t=some (.slice el):=by
     unfold elemOf at hel
     split at hel
     ·cases hel;assumption
     ·cases hel
    have he:(Op.equal t (.slice (some ⟨b1,o1,none⟩) len cap) (.slice none 0 0)).run P w=.ok false w:=by rw[equal_unfold,Op.equalIn];simp[run_underlying hu]
    have h1:(eqGuard .eql t x y (act.eval x) (act.eval y)).run P w=.ok () w:=by rw[hv,hyv];exact eqGuard_plain _ _ _ _ _ _ (by simp) (by simp)
    have h2:(binOp .eql t (act.eval x) (act.eval y)).run P w=.ok (.bool false) w:=by rw[hv,hyv];simp only[binOp];simp[he]
    refine OpRes.quiet hW (.bool false) ?_ (by simp[RepSV,RepSC,Rep])
    simp[execOp,ho,h1,h2]
  ·cases h
 ·cases h
theorem op_unOp {op:UnOp}{t:TypeId}{x:Operand}{a p:PV}(hW:WInv G w) (ho:o.op=.unOp op t x) (ha:(ρ x).pv? = some a) (hp:unPV op a=some p) (hρ:∀x,RepSV G used (ρ x) (act.eval x)) :
  OpRes P o act w G used (.one (.pv p)) [] []:=by
 have hra:=SV.pv_rep (hρ x) ha
 unfold unPV at hp
 split at hp
 ·cases hp
  simp only[Rep] at hra
  exact OpRes.quiet hW _ (by simp[execOp,ho,hra,Op.unary];rfl) (by simp[RepSV,RepSC,Rep])
 ·cases hp
  simp only[Rep] at hra
  exact OpRes.quiet hW _ (by simp[execOp,ho,hra,Op.unary,Op.intArith];rfl) (by simp[RepSV,RepSC,Rep])
 ·cases hp
theorem capsOf_rep:∀{xs:List Operand}{cs:List Cap},(∀x,RepSV G used (ρ x) (act.eval x))→capsOf (xs.map ρ)=some cs→RepCaps G cs (xs.map act.eval)
 | [],cs,_,h=>by simp[capsOf] at h;subst h;simp[RepCaps]
 |x::xs,cs,hρ,h=>by
  simp only[List.map_cons,capsOf] at h
  cases hc:capOf (ρ x) with
  |none=>simp[hc] at h
  |some c=>
   simp only[hc,Option.map_eq_some_iff] at h
   obtain ⟨ds,hd,rfl⟩:=h
   have hx:=hρ x
   have ih:=capsOf_rep hρ hd
   unfold capOf at hc
   split at hc<;>try cases hc
   ·rename_i p hp
    rw[hp] at hx
    simp only[List.map_cons,RepCaps]
    exact ⟨_,_,rfl,by simpa [RepSV,RepSC] using hx,ih⟩
   ·rename_i n off hp
    rw[hp] at hx
    simp only[RepSV,RepSC] at hx
    obtain ⟨b,h1,h2⟩:=hx
    simp only[List.map_cons,RepCaps]
    exact ⟨b,_,by rw[h2],h1,ih⟩
theorem op_makeFunc {f:FuncId}{first captured:Array Operand}{cs:List Cap}(hW:WInv G w) (ho:o.op=.makeFunc (.func f) first captured) (h0:first.size=0) (hc:capsOf (captured.toList.map ρ)=some cs)
  (hρ:∀x,RepSV G used (ρ x) (act.eval x)):OpRes P o act w G used (mkFn f cs) [] []:=by
 have hr:=capsOf_rep hρ hc
 have h1:first=#[]:=Array.eq_empty_of_size_eq_zero h0
 subst h1
 refine OpRes.quiet hW (.func (.func f) #[] (captured.map act.eval)) (by simp[execOp,ho,Instr.makeFunc]) ?_
 unfold mkFn
 split
 ·rename_i ps hp
  simp only[RepSV,RepSC]
  rw[Rep]
  exact ⟨_,rfl,by simpa using capsPV_rep hr hp⟩
 ·simp only[RepSV,RepSC]
  exact ⟨_,rfl,by simpa using hr⟩
theorem op_fieldAddr_ptr {t:TypeId}{x:Operand}{f off off':Nat}{n:Nm}(hW:WInv G w) (ho:o.op=.fieldAddr t x f) (hf:fieldOff P t f=some off') (hx:ρ x=.one (.ptr n off)) (hρ:∀x,RepSV G used (ρ x) (act.eval x)) :
  OpRes P o act w G used (.one (.ptr n (off+off'))) [] []:=by
 obtain ⟨fs,fd,i,hu,hfd,hi,hs,rfl⟩:=fieldOff_spec hf
 have h:=hρ x
 rw[hx] at h
 simp only[RepSV,RepSC] at h
 obtain ⟨b,h1,h2⟩:=h
 refine OpRes.quiet hW (.pointer (some ⟨b,off+fd.offset,none⟩)) ?_ ⟨b,h1,rfl⟩
 simp[execOp,ho,Instr.fieldAt,run_underlying hu,hfd,h2,Instr.sureAddr,fieldPlace,sizeOf,run_typeInfo hi,hs,add_none]
theorem op_fieldAddr_ep {t:TypeId}{x:Operand}{f off off':Nat}{y:PV}(hW:WInv G w) (ho:o.op=.fieldAddr t x f) (hf:fieldOff P t f=some off') (hx:ρ x=.one (.pv (.ep y off))) (hρ:∀x,RepSV G used (ρ x) (act.eval x)) :
  OpRes P o act w G used (.one (.pv (.ep y (off+off')))) [] []:=by
 obtain ⟨fs,fd,i,hu,hfd,hi,hs,rfl⟩:=fieldOff_spec hf
 have h:=hρ x
 rw[hx] at h
 simp only[RepSV,RepSC] at h
 rw[Rep] at h
 obtain ⟨b,o',u,k,h1,h2⟩:=h
 refine OpRes.quiet hW (.pointer (some ⟨b,o'+(off+fd.offset),none⟩)) ?_ ?_
 ·simp[execOp,ho,Instr.fieldAt,run_underlying hu,hfd,h1,Instr.sureAddr,fieldPlace,sizeOf,run_typeInfo hi,hs,add_none,Nat.add_assoc]
 ·simp only[RepSV,RepSC]
  rw[Rep]
  exact ⟨b,o',u,k,rfl,h2⟩
theorem op_extract {x:Operand}{i:Nat}{ps:List PV}{p:PV}(hW:WInv G w) (ho:o.op=.extract x i) (hx:ρ x=.one (.pv (.tuple ps))) (hp:ps[i]? = some p) (hρ:∀x,RepSV G used (ρ x) (act.eval x)) :
  OpRes P o act w G used (.one (.pv p)) [] []:=by
 have h:=hρ x
 rw[hx] at h
 simp only[RepSV,RepSC] at h
 rw[Rep] at h
 obtain ⟨vs,h1,h2⟩:=h
 obtain ⟨v,h3,h4⟩:=h2.get i p hp
 refine OpRes.quiet hW v ?_ (by simpa [RepSV,RepSC] using h4)
 have h5:vs[i]? = some v:=by simpa using h3
 simp[execOp,ho,h1,Instr.extract,h5]
theorem eqTOf_conc {t:TypeId}(h1:eqTOf P t≠.none) (h2:eqTOf P t≠.iface):∃d,P.underlying t=some d∧∀ms,d≠.interface ms:=by
 unfold eqTOf at h1 h2
 cases hu:P.underlying t with
 |none=>rw[hu] at h1;exact absurd rfl h1
 |some d=>refine ⟨d,rfl,fun ms e=>?_⟩;subst e;rw[hu] at h2;exact h2 rfl
theorem op_makeInterface {t:TypeId}{x:Operand}{p:PV}(hW:WInv G w) (ho:o.op=.makeInterface t x) (hx:(ρ x).pv? = some p) (h1:eqTOf P t≠.none) (h2:eqTOf P t≠.iface) (hρ:∀x,RepSV G used (ρ x) (act.eval x)) :
  OpRes P o act w G used (.one (.pv (.ifc t p))) [] []:=by
 have h:=SV.pv_rep (hρ x) hx
 obtain ⟨d,hu,hd⟩:=eqTOf_conc h1 h2
 refine OpRes.quiet hW (.iface t (act.eval x)) ?_ (by simp only[RepSV,RepSC];rw[Rep];exact ⟨_,rfl,h⟩)
 have hr:(Instr.makeInterface t (act.eval x)).run P w=.ok (.iface t (act.eval x)) w:=by
  unfold Instr.makeInterface
  rw[Sem.run_bind,run_underlying hu]
  cases d<;>first|exact absurd rfl (hd _)|rfl
 simp[execOp,ho,hr]
theorem op_indexAddr {t:TypeId}{x ix:Operand}{k:Sz}{bytes:Nat}{es:List PV}{i:Int}{e:PV}(hW:WInv G w) (ho:o.op=.indexAddr t x ix) (hs:elemSz P t=some (k,bytes)) (hx:(ρ x).pv? = some (.slice es)) (hi:intOf? (ρ ix)=some i)
  (h0:0≤i) (he:es[i.toNat]? = some e) (hk:e.hasSz k=true) (hρ:∀x,RepSV G used (ρ x) (act.eval x)):OpRes P o act w G used (.one (.pv (.ep e 0))) [] []:=by
 obtain ⟨el,inf,z,hu,hsz,hinf,hsi,_,hpos,_,_⟩:=elemSz_spec hs
 have hr:=SV.pv_rep (hρ x) hx
 rw[Rep] at hr
 obtain ⟨a,len,cap,k',hv,rfl,hlc,hcm,h5⟩:=hr
 obtain ⟨ik,hiv⟩:=intOf_rep (hρ ix) hi
 have hlt:i.toNat<es.length:=(List.getElem?_eq_some_iff.1 he).1
 rcases h5 with h5|⟨b,o',rfl,h6⟩
 ·subst h5;simp at hlt
 obtain ⟨u,h7,h8,h9⟩:=h6.get _ _ he
 have hkk:k'=k:=okV_unique h8 (hasSz_ok h7 hk)
 subst hkk
 refine OpRes.quiet hW (.pointer (some ⟨b,o'+i.toNat*k'.size+0,none⟩)) ?_ ?_
 ·have h10:i<es.length:=by omega
  simp[execOp,ho,Instr.indexAt,hiv,asIntOf,run_underlying hu,hv,h0,h10,run_sizeOf_sz hsz,add_none]
 ·simp only[RepSV,RepSC]
  rw[Rep]
  exact ⟨b,_,u,k',rfl,h7,h8,h9⟩
theorem op_index {t:TypeId}{x ix:Operand}{s:ByteArray}{i:Int}{c:UInt8}(hW:WInv G w) (ho:o.op=.index t x ix) (ht:eqTOf P t=.str) (hx:(ρ x).pv? = some (.str s)) (hi:intOf? (ρ ix)=some i) (h0:0≤i) (hc:s.data.toList[i.toNat]? = some c)
  (hρ:∀x,RepSV G used (ρ x) (act.eval x)):OpRes P o act w G used (.one (.pv (.int .u8 c.toNat))) [] []:=by
 have hr:=SV.pv_rep (hρ x) hx
 simp only[Rep] at hr
 obtain ⟨ik,hiv⟩:=intOf_rep (hρ ix) hi
 have hu:=eqTOf_str ht
 have hb:s[i.toNat]? = some c:=by
  have h1:s.data[i.toNat]? = some c:=by simpa using hc
  obtain ⟨h2,h3⟩:=Array.getElem?_eq_some_iff.1 h1
  have h4:i.toNat<s.size:=h2
  rw[getElem?_pos s i.toNat h4]
  exact congrArg some h3
 refine OpRes.quiet hW (.int .u8 c.toNat) ?_ (by simp[RepSV,RepSC,Rep])
 simp[execOp,ho,Instr.index,hiv,asIntOf,run_underlying hu,hr,h0,hb]
end ops
end Go.Abs