/- The law's guard: kinds, constructors. -/
import Derived.Test.YtokeiaiddaojnaaGreatDoorKonE
import Derived.Test.YtokeiaiddaojnaaGreatDoorFacts
set_option linter.unusedSimpArgs false
set_option linter.unusedVariables false
namespace Go.Abs.Kon
open Go Go.Proofs Go.Abs
set_option maxRecDepth 100000
set_option maxHeartbeats 1000000
def findN {α:Type}(q:α→Int→Bool×Int):List α→Int→Nat→Int×Int
 | [],n,_=>(-1,n)
 |x::r,n,i=>if (q x n).1=true then ((i:Int),(q x n).2) else findN q r (q x n).2 (i+1)
def anyN {α:Type}(q:α→Int→Bool×Int):List α→Int→Bool×Int
 | [],n=>(false,n)
 |x::r,n=>if (q x n).1=true then (true,(q x n).2) else anyN q r (q x n).2
theorem findN_any {α:Type}(q:α→Int→Bool×Int):∀(l:List α) (n:Int) (i:Nat),(findN q l n i).2=(anyN q l n).2∧(decide ((findN q l n i).1≥0)=(anyN q l n).1)
 | [],n,i=>by simp[findN,anyN]
 |x::r,n,i=>by
   simp only[findN,anyN]
   split
   · simp
   · exact findN_any q r _ (i+1)
def Down {α:Type}(q:α→Int→Bool×Int) (l:List α):Prop:=∀x∈l,∀n,0≤n→n≤1000000→(q x n).2≤n∧((q x n).1=false→0≤(q x n).2)
theorem anyN_down {α:Type}(q:α→Int→Bool×Int):∀(l:List α),Down q l→∀n,0≤n→n≤1000000→(anyN q l n).2≤n∧((anyN q l n).1=false→0≤(anyN q l n).2)
 | [],_,n,h0,_=>by simp[anyN,h0]
 |x::r,hd,n,h0,h1=>by
   obtain ⟨g1,g2⟩:=hd x (by simp) n h0 h1
   simp only[anyN]
   split
   · rename_i e;exact ⟨g1,fun h=>by cases h⟩
   · rename_i e
     have e':(q x n).1=false:=by simpa using e
     have:=anyN_down q r (fun y hy=>hd y (List.mem_cons_of_mem _ hy)) (q x n).2 (g2 e') (by omega)
     exact ⟨by omega,this.2⟩
def rB (n:Nat):Box:=⟨.one,.one (.ptr (.ref n) 0)⟩
def iB (n:Int):Box:=⟨.one,ii n⟩
/-! Kinds -/
mutual
def fewK:KindT→Int→Bool×Int
 | .mk l,n=>if n - 1<0 then (false,n - 1) else (!(anyK l (n - 1)).1,(anyK l (n - 1)).2)
def anyK:List KindT→Int→Bool×Int
 | [],n=>(false,n)
 |x::r,n=>if (!(fewK x n).1)=true then (true,(fewK x n).2) else anyK r (fewK x n).2
end
def notK (k:KindT) (n:Int):Bool×Int:=(!(fewK k n).1,(fewK k n).2)
theorem anyK_eq:∀(l:List KindT) (n:Int),anyK l n=anyN notK l n
 | [],n=>by rw[anyK,anyN]
 |x::r,n=>by rw[anyK,anyN,anyK_eq r];rfl
theorem notK_down:∀(l:List KindT),Down notK l:=by
 have:∀k:KindT,∀n,0≤n→n≤1000000→(notK k n).2≤n∧((notK k n).1=false→0≤(notK k n).2):=by
   refine KindT.ind1 fun l ih=>?_
   intro n h0 h1
   simp only[notK]
   rw[fewK]
   split
   · simp;omega
   · rw[anyK_eq]
     have:=anyN_down notK l (fun x hx=>ih x hx) (n - 1) (by omega) (by omega)
     simp only[Bool.not_not]
     exact ⟨by omega,this.2⟩
 exact fun l x _=>this x
def annFK:Ann:=⟨[2],[],ann65.live,ann65.head⟩
@[go_sem] theorem annFK_imm:annFK.imm=[2]:=rfl
@[go_sem] theorem annFK_frz:annFK.frz=[]:=rfl
@[go_sem] theorem annFK_live:annFK.live=ann65.live:=rfl
@[go_sem] theorem annFK_head:annFK.head=ann65.head:=rfl
end Go.Abs.Kon
namespace Go.Abs.Kon
open Go Go.Proofs Go.Abs
set_option maxRecDepth 100000
set_option maxHeartbeats 1000000
def long60 (s:ByteArray):Bool:=decide ((s.size:Int)>60)
mutual
def fewC:ConT→Int→Int→Bool×Int
 | .mk _ _ s k names l,n,d=>if n - 1<0 then (false,n - 1) else if d>60 then (false,n - 1) else if (s.size:Int)>60 then (false,n - 1) else if (names.length:Int)>20 then (false,n - 1) else if names.any long60=true then (false,n - 1) else
   if (fewK (.mk k) (n - 1)).1=false then (false,(fewK (.mk k) (n - 1)).2) else (!(anyC l (fewK (.mk k) (n - 1)).2 (d+1)).1,(anyC l (fewK (.mk k) (n - 1)).2 (d+1)).2)
def anyC:List ConT→Int→Int→Bool×Int
 | [],n,_=>(false,n)
 |x::r,n,d=>if (!(fewC x n d).1)=true then (true,(fewC x n d).2) else anyC r (fewC x n d).2 d
end
def notC (d:Int) (c:ConT) (n:Int):Bool×Int:=(!(fewC c n d).1,(fewC c n d).2)
theorem anyC_eq:∀(l:List ConT) (n d:Int),anyC l n d=anyN (notC d) l n
 | [],n,d=>by rw[anyC,anyN]
 |x::r,n,d=>by rw[anyC,anyN,anyC_eq r];rfl
theorem notC_down (d:Int):∀(l:List ConT),Down (notC d) l:=by
 have:∀c:ConT,∀d n,0≤n→n≤1000000→(notC d c n).2≤n∧((notC d c n).1=false→0≤(notC d c n).2):=by
   refine ConT.ind1 fun op m s k names l ih=>?_
   intro d n h0 h1
   simp only[notC]
   rw[fewC]
   split
   · simp;omega
   rename_i g0
   split
   · simp;omega
   split
   · simp;omega
   split
   · simp;omega
   split
   · simp;omega
   have hk:=notK_down [.mk k] (.mk k) (by simp) (n - 1) (by omega) (by omega)
   simp only[notK] at hk
   split
   · rename_i g
     simp
     omega
   · rename_i g
     have g':(fewK (.mk k) (n - 1)).1=true:=by simpa using g
     rw[g'] at hk
     have hk2:=hk.2 rfl
     rw[anyC_eq]
     have:=anyN_down (notC (d+1)) l (fun x hx n g0 g1=>ih x hx (d+1) n g0 g1) (fewK (.mk k) (n - 1)).2 hk2 (by omega)
     simp only[Bool.not_not]
     exact ⟨by omega,this.2⟩
 exact fun l x _=>this x d
def annFC:Ann:=⟨[3,5],[],ann64.live,ann64.head⟩
@[go_sem] theorem annFC_imm:annFC.imm=[3,5]:=rfl
@[go_sem] theorem annFC_frz:annFC.frz=[]:=rfl
@[go_sem] theorem annFC_live:annFC.live=ann64.live:=rfl
@[go_sem] theorem annFC_head:annFC.head=ann64.head:=rfl
end Go.Abs.Kon
