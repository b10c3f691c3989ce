/- What comes in is a term. -/
import Derived.Test.YtafhcphggdipaaaGreatDoorKonG
import Derived.Test.YtafhcphggdipaaaGreatDoorTermC
import Derived.Test.YtafhcphggdipaaaGreatDoorTermX
set_option linter.unusedSimpArgs false
set_option linter.unusedVariables false
namespace Go.Abs.Kon
open Go Go.Proofs Go.Abs Go.ChangeShapes Go.WideShapes Go.ChangeAt Go.RowKit
set_option maxRecDepth 100000
set_option maxHeartbeats 4000000
def StrW:Type:={s:ByteArray // s.size≤9223372036854775807}
instance:Inhabited StrW:=⟨⟨ByteArray.empty,Nat.zero_le _⟩⟩
def ConW:Type:={c:ConT // okSL c}
theorem okSL_zero:okSL zeroC:=by rw[zeroC,okSL];exact ⟨fun _ h=>absurd h (by simp),by rw[okSLs];trivial⟩
instance:Inhabited ConW:=⟨⟨zeroC,okSL_zero⟩⟩
def TermW:Type:={t:TermT // okTL t}
instance:Inhabited TermW:=⟨⟨zeroT,by rw[zeroT,okTL];exact ⟨Nat.zero_le _,okSL_zero,okSL_zero,fun _ h=>absurd h (by simp),by rw[okTLs];trivial⟩⟩⟩
section
variable {H:Type}{enc:TypeId×Value→H}{W:World}{base base':Nat}{sp:Nat→Bool}{hd:Bool}
theorem open_strW {n:Nat}{cs:List Value}{x:DataW H×List MemPlace}(h:DataW.trod enc Tryz.prog W base sp hd n 9 cs=some x):∃(s:StrW) (u:Value),u.cells.toList=cs∧Rep (memI W) (.str s.1) u∧Sz.one.okV u=true:=by
 obtain ⟨s,rfl,rfl,hs⟩:=DataW.trod_string Tryz.underlying9 h
 exact ⟨⟨s,hs⟩,.string s,by simp[Value.cells],by simp[Rep],rfl⟩
theorem open_conW:∀(n:Nat) (cs:List Value) (x:DataW H×List MemPlace),DataW.trod enc Tryz.prog W base sp hd n 28 cs=some x →
   ∃(c:ConW) (u:Value),u.cells.toList=cs∧Rep (memI W) (encC c.1) u∧Sz.okV (.agg 6) u=true:=by
 intro n
 induction n using Nat.strongRecOn with
 |_ n ih=>
   intro cs x h
   obtain ⟨xs,m,rfl,_,hl,hxs,hf⟩:=DataW.trod_struct Tryz.underlying28 h
   rw[cells28] at hl
   obtain ⟨v0,v1,v2,v3,v4,v5,rfl⟩:∃v0 v1 v2 v3 v4 v5,cs=[v0,v1,v2,v3,v4,v5]:=by
     match cs,hl with
     | [v0,v1,v2,v3,v4,v5],_=>exact ⟨v0,v1,v2,v3,v4,v5,rfl⟩
   obtain ⟨y0,y1,y2,y3,y4,y5,rfl⟩:∃y0 y1 y2 y3 y4 y5,xs=[y0,y1,y2,y3,y4,y5]:=by
     match xs,hxs with
     | [y0,y1,y2,y3,y4,y5],_=>exact ⟨y0,y1,y2,y3,y4,y5,rfl⟩
   have h0:=hf 0 {name:= "Op",type:=3,offset:=0,embedded:=false,tag:= "",pkgPath:= "",byteOffset:=0} rfl
   have h1:=hf 1 {name:= "N",type:=3,offset:=1,embedded:=false,tag:= "",pkgPath:= "",byteOffset:=8} rfl
   have h2:=hf 2 {name:= "S",type:=9,offset:=2,embedded:=false,tag:= "",pkgPath:= "",byteOffset:=16} rfl
   have h3:=hf 3 {name:= "Kind",type:=24,offset:=3,embedded:=false,tag:= "",pkgPath:= "",byteOffset:=32} rfl
   have h4:=hf 4 {name:= "Names",type:=25,offset:=4,embedded:=false,tag:= "",pkgPath:= "",byteOffset:=56} rfl
   have h5:=hf 5 {name:= "L",type:=26,offset:=5,embedded:=false,tag:= "",pkgPath:= "",byteOffset:=80} rfl
   simp only[cells3,cells9,cells24,cells25,cells26,List.drop_succ_cons,List.drop_zero,List.take_succ_cons,List.take_zero,List.getElem?_cons_zero,List.getElem?_cons_succ] at h0 h1 h2 h3 h4 h5
   obtain ⟨op,k0⟩:=open_i64 h0
   obtain ⟨nn,k1⟩:=open_i64 h1
   obtain ⟨s,us,k2,r2,_⟩:=open_strW h2
   obtain ⟨kl,vk,k3,r3,o3⟩:=open_kind _ _ _ h3
   obtain ⟨names,vn,k4,r4,o4⟩:=open_elems (k:=.one) Tryz.underlying25 cells9 (by decide) (fun s:StrW=>PV.str s.1) (fun m' cs' x' hm h'=>open_strW h') h4
   obtain ⟨l,vl,k5,r5,o5⟩:=open_elems (k:=.agg 6) Tryz.underlying26 cells28 (by decide) (fun c:ConW=>encC c.1) (fun m' cs' x' hm h'=>ih m' (by omega) cs' x' h') h5
   rw[Rep] at r2
   subst r2
   simp[Value.cells] at k0 k1 k2 k3 k4 k5
   subst k0 k1 k2 k3 k4 k5
   have hone:∀z∈#[Value.int .i64 op,.int .i64 nn,.string s.1,v3,v4,v5].toList,z.oneCell'=true:=by
     intro z hz
     simp only[List.mem_cons,List.not_mem_nil,or_false] at hz
     rcases hz with rfl|rfl|rfl|rfl|rfl|rfl
     · rfl
     · rfl
     · rfl
     · exact o3
     · exact o4
     · exact o5
   have hok:okSL (.mk op nn s.1 kl (names.map (·.1)) (l.map (·.1))):=by
     rw[okSL]
     refine ⟨fun x hx=>?_,okSLs_of fun x hx=>?_⟩
     · obtain ⟨y,_,rfl⟩:=List.mem_map.1 hx
       exact y.2
     · obtain ⟨y,_,rfl⟩:=List.mem_map.1 hx
       exact y.2
   refine ⟨⟨.mk op nn s.1 kl (names.map (·.1)) (l.map (·.1)),hok⟩,.agg #[.int .i64 op,.int .i64 nn,.string s.1,v3,v4,v5],rfl,?_,?_⟩
   · rw[encC_mk,List.map_map,List.map_map,Rep]
     refine ⟨_,rfl,?_,hone⟩
     simp only[RepL]
     exact ⟨_,_,rfl,by rw[Rep],_,_,rfl,by rw[Rep],_,_,rfl,by rw[Rep],_,_,rfl,r3,_,_,rfl,r4,_,_,rfl,r5,rfl⟩
   · simp only[Sz.okV,Bool.and_eq_true,List.all_eq_true]
     exact ⟨rfl,hone⟩
theorem open_termW:∀(n:Nat) (cs:List Value) (x:DataW H×List MemPlace),DataW.trod enc Tryz.prog W base sp hd n 31 cs=some x →
   ∃(c:TermW) (u:Value),u.cells.toList=cs∧Rep (memI W) (encT c.1) u∧Sz.okV (.agg 18) u=true:=by
 intro n
 induction n using Nat.strongRecOn with
 |_ n ih=>
   intro cs x h
   obtain ⟨xs,m,rfl,hx,hl,hxs,hf⟩:=DataW.trod_struct Tryz.underlying31 h
   rw[cellsT] at hl
   obtain ⟨v0,v1,v2,v3,v4,v5,v6,v7,v8,v9,v10,v11,v12,v13,v14,v15,v16,v17,rfl⟩:∃v0 v1 v2 v3 v4 v5 v6 v7 v8 v9 v10 v11 v12 v13 v14 v15 v16 v17,cs=[v0,v1,v2,v3,v4,v5,v6,v7,v8,v9,v10,v11,v12,v13,v14,v15,v16,v17]:=by
     match cs,hl with
     | [v0,v1,v2,v3,v4,v5,v6,v7,v8,v9,v10,v11,v12,v13,v14,v15,v16,v17],_=>exact ⟨v0,v1,v2,v3,v4,v5,v6,v7,v8,v9,v10,v11,v12,v13,v14,v15,v16,v17,rfl⟩
   obtain ⟨y0,y1,y2,y3,y4,y5,y6,y7,rfl⟩:∃y0 y1 y2 y3 y4 y5 y6 y7,xs=[y0,y1,y2,y3,y4,y5,y6,y7]:=by
     match xs,hxs with
     | [y0,y1,y2,y3,y4,y5,y6,y7],_=>exact ⟨y0,y1,y2,y3,y4,y5,y6,y7,rfl⟩
   have h0:=hf 0 {name:= "Op",type:=3,offset:=0,embedded:=false,tag:= "",pkgPath:= "",byteOffset:=0} rfl
   have h1:=hf 1 {name:= "N",type:=3,offset:=1,embedded:=false,tag:= "",pkgPath:= "",byteOffset:=8} rfl
   have h2:=hf 2 {name:= "S",type:=9,offset:=2,embedded:=false,tag:= "",pkgPath:= "",byteOffset:=16} rfl
   have h3:=hf 3 {name:= "Con",type:=28,offset:=3,embedded:=false,tag:= "",pkgPath:= "",byteOffset:=32} rfl
   have h4:=hf 4 {name:= "To",type:=28,offset:=9,embedded:=false,tag:= "",pkgPath:= "",byteOffset:=136} rfl
   have h5:=hf 5 {name:= "Kind",type:=24,offset:=15,embedded:=false,tag:= "",pkgPath:= "",byteOffset:=240} rfl
   have h6:=hf 6 {name:= "Names",type:=25,offset:=16,embedded:=false,tag:= "",pkgPath:= "",byteOffset:=264} rfl
   have h7:=hf 7 {name:= "L",type:=29,offset:=17,embedded:=false,tag:= "",pkgPath:= "",byteOffset:=288} rfl
   simp only[cells3,cells9,cells24,cells25,cells28,cellsTL,List.drop_succ_cons,List.drop_zero,List.take_succ_cons,List.take_zero,List.getElem?_cons_zero,List.getElem?_cons_succ] at h0 h1 h2 h3 h4 h5 h6 h7
   obtain ⟨op,k0⟩:=open_i64 h0
   obtain ⟨nn,k1⟩:=open_i64 h1
   obtain ⟨s,us,k2,r2,_⟩:=open_strW h2
   obtain ⟨con,uc,kc,rc,oc⟩:=open_conW _ _ _ h3
   obtain ⟨to,ut,kt,rt,ot⟩:=open_conW _ _ _ h4
   obtain ⟨kl,vk,k3,r3,o3⟩:=open_kind _ _ _ h5
   obtain ⟨names,vn,k4,r4,o4⟩:=open_elems (k:=.one) Tryz.underlying25 cells9 (by decide) (fun s:StrW=>PV.str s.1) (fun m' cs' x' hm h'=>open_strW h') h6
   obtain ⟨l,vl,k5,r5,o5⟩:=open_elems (k:=.agg 18) Tryz.underlying29 cellsT (by decide) (fun t:TermW=>encT t.1) (fun m' cs' x' hm h'=>ih m' (by omega) cs' x' h') h7
   obtain ⟨ec,pc⟩:=con_cells rc oc kc
   obtain ⟨et,pt⟩:=con_cells rt ot kt
   rw[Rep] at r2
   subst r2
   simp[Value.cells] at k0 k1 k2 k3 k4 k5
   subst k0 k1 k2 k3 k4 k5
   have hone:∀z∈#[Value.int .i64 op,.int .i64 nn,.string s.1,v3,v4,v5,v6,v7,v8,v9,v10,v11,v12,v13,v14,v15,v16,v17].toList,z.oneCell'=true:=by
     intro z hz
     have hz':z∈[Value.int .i64 op,.int .i64 nn,.string s.1]∨z∈[v3,v4,v5,v6,v7,v8]∨z∈[v9,v10,v11,v12,v13,v14]∨z∈[v15,v16,v17]:=by
       rw[←List.mem_append,←List.mem_append,←List.mem_append]
       exact hz
     rcases hz' with hz|hz|hz|hz
     · simp only[List.mem_cons,List.not_mem_nil,or_false] at hz
       rcases hz with rfl|rfl|rfl<;>rfl
     · exact pc z hz
     · exact pt z hz
     · simp only[List.mem_cons,List.not_mem_nil,or_false] at hz
       rcases hz with rfl|rfl|rfl
       · exact o3
       · exact o4
       · exact o5
   have hok:okTL (.mk op nn s.1 con.1 to.1 kl (names.map (·.1)) (l.map (·.1))):=by
     rw[okTL]
     refine ⟨s.2,con.2,to.2,fun x hx=>?_,okTLs_mem.2 fun x hx=>?_⟩
     · obtain ⟨y,_,rfl⟩:=List.mem_map.1 hx
       exact y.2
     · obtain ⟨y,_,rfl⟩:=List.mem_map.1 hx
       exact y.2
   refine ⟨⟨.mk op nn s.1 con.1 to.1 kl (names.map (·.1)) (l.map (·.1)),hok⟩,.agg #[.int .i64 op,.int .i64 nn,.string s.1,v3,v4,v5,v6,v7,v8,v9,v10,v11,v12,v13,v14,v15,v16,v17],rfl,?_,?_⟩
   · rw[encT_parts,List.map_map,List.map_map,Rep]
     refine ⟨_,rfl,?_,hone⟩
     refine RepL_append (xs:=[.int .i64 op,.int .i64 nn,.string s.1]++[v3,v4,v5,v6,v7,v8]) (ys:=[v9,v10,v11,v12,v13,v14]++[v15,v16,v17]) (RepL_append ?_ ec) (RepL_append et ?_)
     · simp only[RepL,Rep]
       exact ⟨_,_,rfl,rfl,_,_,rfl,rfl,_,_,rfl,rfl,rfl⟩
     · simp only[RepL]
       exact ⟨_,_,rfl,r3,_,_,rfl,r4,_,_,rfl,r5,rfl⟩
   · simp only[Sz.okV,Bool.and_eq_true,List.all_eq_true]
     exact ⟨rfl,hone⟩
theorem arg_termW {v:Value}{d:DataW H}{ps:List MemPlace}(hv:Value.okWide Tryz.prog W .any base' 31 v) (h:DataW.Trod enc Tryz.prog W base sp hd 31 v d ps):∃c:TermT,Rep (memI W) (encT c) v∧okTL c:=by
 obtain ⟨n,hn⟩:=h
 obtain ⟨c,u,h1,h2,h3⟩:=open_termW n _ _ hn
 rw[Value.okWide,Tryz.underlying31] at hv
 obtain ⟨cs,rfl,_⟩:=hv
 have hu:u=.agg cs:=by
   cases u with
   |agg us=>simp[Value.cells] at h1;rw[h1]
   |_=>simp[Sz.okV] at h3
 exact ⟨c.1,hu ▸ h2,c.2⟩
theorem arg_consW {v:Value}{d:DataW H}{ps:List MemPlace}(hv:Value.okWide Tryz.prog W .any base' 26 v) (h:DataW.Trod enc Tryz.prog W base sp hd 26 v d ps):∃l:List ConT,Rep (memI W) (.slice (l.map encC)) v∧∀x∈l,okSL x:=by
 obtain ⟨n,hn⟩:=h
 obtain ⟨l,u,h1,h2,h3⟩:=open_elems (k:=.agg 6) Tryz.underlying26 cells28 (by decide) (fun c:ConW=>encC c.1) (fun m' cs' x' hm h'=>open_conW m' cs' x' h') hn
 have hu:u=v:=by
   rw[Value.okWide,Tryz.underlying26] at hv
   simp only[Cell.okWide,Tryz.underlying26] at hv
   cases v<;>simp[Cell.ok,Tryz.underlying26] at hv<;>simp[Value.cells] at h1<;>exact h1.symm
 refine ⟨l.map (·.1),by rw[List.map_map];exact hu ▸ h2,fun x hx=>?_⟩
 obtain ⟨y,_,rfl⟩:=List.mem_map.1 hx
 exact y.2
end
end Go.Abs.Kon
