/- The law's guard: terms. -/
import Derived.Test.YtokeiaiddaojnaaGreatDoorGuardA
import Derived.Test.YtokeiaiddaojnaaGreatDoorEvalI
set_option linter.unusedSimpArgs false
set_option linter.unusedVariables false
namespace Go.Abs.Kon
open Go Go.Proofs Go.Abs
set_option maxRecDepth 100000
set_option maxHeartbeats 1000000
def fewQ (con to:ConT) (k:List KindT) (n:Int):Bool×Int:=
 if (fewC con n 0).1=false then (false,(fewC con n 0).2) else
 if (fewC to (fewC con n 0).2 0).1=false then (false,(fewC to (fewC con n 0).2 0).2) else
 fewK (.mk k) (fewC to (fewC con n 0).2 0).2
mutual
def fewT:TermT→Int→Int→Bool×Int
 | .mk _ _ s con to k names l,n,d=>if n - 1<0 then (false,n - 1) else if d>60 then (false,n - 1) else if (s.size:Int)>200 then (false,n - 1) else if (names.length:Int)>20 then (false,n - 1) else if names.any long60=true then (false,n - 1) else
   if (fewQ con to k (n - 1)).1=false then (false,(fewQ con to k (n - 1)).2) else (!(anyT l (fewQ con to k (n - 1)).2 (d+1)).1,(anyT l (fewQ con to k (n - 1)).2 (d+1)).2)
def anyT:List TermT→Int→Int→Bool×Int
 | [],n,_=>(false,n)
 |x::r,n,d=>if (!(fewT x n d).1)=true then (true,(fewT x n d).2) else anyT r (fewT x n d).2 d
end
theorem fewC_down (c:ConT) (n d:Int) (h0:0≤n) (h1:n≤1000000):(fewC c n d).2≤n∧((fewC c n d).1=true→0≤(fewC c n d).2):=by
 have:=notC_down d [c] c (by simp) n h0 h1
 simpa [notC] using this
theorem fewK_down (k:KindT) (n:Int) (h0:0≤n) (h1:n≤1000000):(fewK k n).2≤n∧((fewK k n).1=true→0≤(fewK k n).2):=by
 have:=notK_down [k] k (by simp) n h0 h1
 simpa [notK] using this
theorem fewQ_down (con to:ConT) (k:List KindT) (n:Int) (h0:0≤n) (h1:n≤1000000):(fewQ con to k n).2≤n∧((fewQ con to k n).1=true→0≤(fewQ con to k n).2):=by
 unfold fewQ
 obtain ⟨a1,a2⟩:=fewC_down con n 0 h0 h1
 split
 · exact ⟨a1,fun e=>by cases e⟩
 · rename_i g
   have a3:=a2 (by simpa using g)
   obtain ⟨b1,b2⟩:=fewC_down to (fewC con n 0).2 0 a3 (by omega)
   split
   · exact ⟨by simp only;omega,fun e=>by cases e⟩
   · rename_i g2
     have b3:=b2 (by simpa using g2)
     obtain ⟨c1,c2⟩:=fewK_down (.mk k) (fewC to (fewC con n 0).2 0).2 b3 (by omega)
     exact ⟨by omega,c2⟩
def annFT:Ann:=⟨[3,5],[],ann30.live,ann30.head⟩
@[go_sem] theorem annFT_imm:annFT.imm=[3,5]:=rfl
@[go_sem] theorem annFT_frz:annFT.frz=[]:=rfl
@[go_sem] theorem annFT_live:annFT.live=ann30.live:=rfl
@[go_sem] theorem annFT_head:annFT.head=ann30.head:=rfl
end Go.Abs.Kon
namespace Go.Abs.Kon
open Go Go.Proofs Go.Abs
set_option maxRecDepth 100000
set_option maxHeartbeats 1000000
mutual
theorem fewK_kn:∀(k:KindT) (n:Int),(fewK k n).1=true→(knF k:Int)+(fewK k n).2≤n
 | .mk l,n,h=>by
   rw[fewK] at h ⊢
   split at h
   · cases h
   · rename_i g
     rw[if_neg g]
     have:=anyK_kn l (n - 1) (by simpa using h)
     rw[knF]
     simp only
     omega
theorem anyK_kn:∀(l:List KindT) (n:Int),(anyK l n).1=false→(knL l:Int)+(anyK l n).2≤n
 | [],n,_=>by rw[anyK,knL];simp
 |x::r,n,h=>by
   rw[anyK] at h ⊢
   split at h
   · cases h
   · rename_i g
     rw[if_neg g]
     have g':(fewK x n).1=true:=by simpa using g
     have h1:=fewK_kn x n g'
     have h2:=anyK_kn r _ h
     rw[knL]
     omega
end
theorem long60_names {names:List ByteArray}(h:¬names.any long60=true):∀x∈names,x.size≤100000000:=by
 intro x hx
 have g5':names.any long60=false:=by simpa using h
 have:=List.any_eq_false.1 g5' x hx
 rw[long60,decide_eq_true_eq] at this
 omega
theorem okSs_of':∀{l:List ConT},(∀x∈l,okS x)→okSs l
 | [],_=>by simp[okSs]
 |x::r,h=>by simp only[okSs];exact ⟨h x (by simp),okSs_of' fun y hy=>h y (List.mem_cons_of_mem _ hy)⟩
mutual
theorem fewC_okS:∀(c:ConT) (n d:Int),0≤n→n≤1500→(fewC c n d).1=true→okS c∧(sizeF c:Int)+(fewC c n d).2≤n∧(wtF c:Int)+21*(fewC c n d).2≤21*n∧0≤(fewC c n d).2
 | .mk op m s k names l,n,d,h0,h1,h=>by
   rw[fewC] at h ⊢
   split at h
   · cases h
   rename_i g1
   rw[if_neg g1]
   split at h
   · cases h
   rename_i g2
   rw[if_neg g2]
   split at h
   · cases h
   rename_i g3
   rw[if_neg g3]
   split at h
   · cases h
   rename_i g4
   rw[if_neg g4]
   split at h
   · cases h
   rename_i g5
   rw[if_neg g5]
   split at h
   · cases h
   rename_i g6
   rw[if_neg g6]
   have g6':(fewK (.mk k) (n - 1)).1=true:=by simpa using g6
   have hk:=fewK_kn (.mk k) (n - 1) g6'
   have hk2:=fewK_down (.mk k) (n - 1) (by omega) (by omega)
   have hk3:=hk2.2 g6'
   obtain ⟨a1,a2,a4,a3⟩:=anyC_okS l (fewK (.mk k) (n - 1)).2 (d+1) hk3 (by omega) (by simpa using h)
   have hkn:(knF (.mk k):Int)=1+knL k:=by rw[knF];omega
   refine ⟨?_,?_,?_,a3⟩
   · simp only[okS]
     exact ⟨by omega,long60_names g5,okSs_of' fun x hx=>a1 x hx⟩
   · rw[sizeF]
     simp only
     omega
   · rw[wtF]
     simp only
     omega
theorem anyC_okS:∀(l:List ConT) (n d:Int),0≤n→n≤1500→(anyC l n d).1=false→(∀x∈l,okS x)∧(sizeL l:Int)+(anyC l n d).2≤n∧(wtL l:Int)+21*(anyC l n d).2≤21*n∧0≤(anyC l n d).2
 | [],n,d,h0,_,_=>by rw[anyC,sizeL,wtL];simp[h0]
 |x::r,n,d,h0,h1,h=>by
   rw[anyC] at h ⊢
   split at h
   · cases h
   · rename_i g
     rw[if_neg g]
     have g':(fewC x n d).1=true:=by simpa using g
     obtain ⟨a1,a2,a4,a3⟩:=fewC_okS x n d h0 h1 g'
     obtain ⟨b1,b2,b4,b3⟩:=anyC_okS r _ d a3 (by omega) h
     refine ⟨fun y hy=>?_,by rw[sizeL];omega,by rw[wtL];omega,b3⟩
     rcases List.mem_cons.1 hy with rfl|hy
     · exact a1
     · exact b1 y hy
end
theorem fewQ_ok {con to:ConT}{k:List KindT}{n:Int}(h0:0≤n) (h1:n≤1500) (h:(fewQ con to k n).1=true):(okS con∧sizeF con≤1500∧wtF con≤31500)∧(okS to∧sizeF to≤1500∧wtF to≤31500)∧knL k≤1500∧0≤(fewQ con to k n).2∧(fewQ con to k n).2≤n:=by
 have hd:=fewQ_down con to k n h0 (by omega)
 have h2:=hd.2 h
 unfold fewQ at h
 split at h
 · cases h
 rename_i g1
 split at h
 · cases h
 rename_i g2
 obtain ⟨a1,a2,a4,a3⟩:=fewC_okS con n 0 h0 h1 (by simpa using g1)
 obtain ⟨b1,b2,b4,b3⟩:=fewC_okS to (fewC con n 0).2 0 a3 (by omega) (by simpa using g2)
 have hk:=fewK_kn _ _ h
 have hk2:=fewK_down (.mk k) (fewC to (fewC con n 0).2 0).2 b3 (by omega)
 have hk3:=hk2.2 h
 have hkn:(knF (.mk k):Int)=1+knL k:=by rw[knF];omega
 exact ⟨⟨a1,by omega,by omega⟩,⟨b1,by omega,by omega⟩,by omega,h2,hd.1⟩
mutual
theorem fewT_ok:∀(c:TermT) (n d:Int),0≤n→n≤1500→(fewT c n d).1=true→okT c∧wcT c∧0≤(fewT c n d).2∧(fewT c n d).2+1≤n
 | .mk op m s con to k names l,n,d,h0,h1,h=>by
   rw[fewT] at h ⊢
   split at h
   · cases h
   rename_i g1
   rw[if_neg g1]
   split at h
   · cases h
   rename_i g2
   rw[if_neg g2]
   split at h
   · cases h
   rename_i g3
   rw[if_neg g3]
   split at h
   · cases h
   rename_i g4
   rw[if_neg g4]
   split at h
   · cases h
   rename_i g5
   rw[if_neg g5]
   split at h
   · cases h
   rename_i g6
   rw[if_neg g6]
   obtain ⟨q1,q2,q3,q4,q5⟩:=fewQ_ok (by omega) (by omega) (show (fewQ con to k (n - 1)).1=true by simpa using g6)
   obtain ⟨a1,a2,a3,a4⟩:=anyT_ok l (fewQ con to k (n - 1)).2 (d+1) q4 (by omega) (by simpa using h)
   refine ⟨?_,?_,a3,by simp only;omega⟩
   · simp only[okT]
     exact ⟨by omega,⟨by have:=q1.2.1;omega,q1.1⟩,⟨by have:=q2.2.1;omega,q2.1⟩,by omega,long60_names g5,by omega,by omega,okTs_mem.2 fun x hx=>(a1 x hx).1⟩
   · simp only[wcT]
     exact ⟨by have:=q1.2.2;omega,by have:=q2.2.2;omega,wcTs_mem.2 fun x hx=>(a1 x hx).2⟩
theorem anyT_ok:∀(l:List TermT) (n d:Int),0≤n→n≤1500→(anyT l n d).1=false→(∀x∈l,okT x∧wcT x)∧(l.length:Int)+(anyT l n d).2≤n∧0≤(anyT l n d).2∧(anyT l n d).2≤n
 | [],n,d,h0,_,_=>by rw[anyT];simp[h0]
 |x::r,n,d,h0,h1,h=>by
   rw[anyT] at h ⊢
   split at h
   · cases h
   · rename_i g
     rw[if_neg g]
     have g':(fewT x n d).1=true:=by simpa using g
     obtain ⟨a1,a2,a3,a4⟩:=fewT_ok x n d h0 h1 g'
     obtain ⟨b1,b2,b3,b4⟩:=anyT_ok r _ d a3 (by omega) h
     refine ⟨fun y hy=>?_,by simp only[List.length_cons];omega,b3,by omega⟩
     rcases List.mem_cons.1 hy with rfl|hy
     · exact ⟨a1,a2⟩
     · exact b1 y hy
end
end Go.Abs.Kon
