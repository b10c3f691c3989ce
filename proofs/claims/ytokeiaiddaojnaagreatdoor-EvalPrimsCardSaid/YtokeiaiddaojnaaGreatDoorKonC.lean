/- Contracts of functions: numbers, names of constants, kinds of the reference. -/
import Derived.Test.YtokeiaiddaojnaaGreatDoorKonB
import Derived.Test.YtokeiaiddaojnaaGreatDoorShelfA
import Derived.Below
set_option linter.unusedSimpArgs false
namespace Go.Abs.Kon
open Go Go.Proofs Go.Abs
set_option maxRecDepth 100000
set_option maxHeartbeats 4000000
theorem below_ext {G:Gh}{w w':World}(hW:WInv G w) (hB:RowKit.Below w.heap.size w w') (mods:Nm→Prop) (us:Nat→Prop):WInv G w'∧Ext G G w w' mods us:=by
 have hE:Ext G G w w' mods us:=⟨Imm.le_refl _,fun _ _ _ h=>.inl h,fun _ _=>rfl,fun _ _ h=>h,fun _ _ h=>.inl h,fun _ _ _ h=>h,fun _ _ _ h _=>.inl h,fun b hb _ _=>hB.block b hb,hB.size,hB.os,hB.tape,hB.output,fun _ _=>rfl⟩
 refine ⟨⟨fun b o v hv=>?_,hW.inj,fun n b h=>Nat.lt_of_lt_of_le (hW.lt n b h) hB.size,hW.blkImm,fun t tk ht=>?_,hW.tokInj,hW.tokBlk,hW.glob.step hE⟩,hE⟩
 · rw[World.cell?_of_block (w:=w) (hB.block b (imm_lt hW hv))];exact hW.imm _ _ _ hv
 · exact (hW.tokOk t tk ht).keep fun g hg=>⟨hB.block g (tok_lt hW ht hg),fun _ _ h=>h⟩
theorem Spec.of_below {f:FuncId}{args:List SV}{r:PV}(hb:bodied Tryz.prog f=true)
   (h:∀(G:Gh) (w:World) (vs:Array Value),WInv G w→RepSVs G [] args vs.toList→Calls Tryz.prog f vs w fun e w'=>∃v,e=.returned v∧Rep G.I r v∧RowKit.Below w.heap.size w w') :
   Spec Tryz.prog f args [] r []:=by
 refine ⟨hb,rfl,fun G w vs hW _ _ _ hr=>(h G w vs hW hr).mono ?_⟩
 rintro e w' ⟨v,he,hv,hB⟩
 obtain ⟨h1,h2⟩:=below_ext hW hB (fun n=>isRef n ([]:List Box).length) (fun _=>True)
 exact ⟨v,G,he,hv,h1,h2,fun j bx hj=>by simp at hj⟩
theorem bytesWorld_below (w:World) (e:TypeId) (s:ByteArray):RowKit.Below w.heap.size w (Lib.bytesWorld w e s):=
 ⟨rfl,rfl,rfl,by rw[Lib.bytesWorld_size];omega,fun k hk=>Lib.bytesWorld_at_old w e s k hk⟩
theorem vs_one {G:Gh}{s:ByteArray}{vs:Array Value}(h:RepSVs G [] [pp (.str s)] vs.toList):vs=#[.string s]:=by
 simp only[RepSVs,pp,RepSV,RepSC,Rep] at h
 obtain ⟨v,rest,h1,rfl,h3⟩:=h
 subst h3
 exact Array.toList_inj.1 h1
def isSyn {α:Type}:Lib.NumEnd α→Bool
 | .ok _=>false
 | .range=>false
 |_=>true
def atoiR (l:List UInt8):PV:=match Lib.atoiAll l with
 | .ok v=>.tuple [.int .i64 v,.nili]
 |_=>.tuple [.int .i64 (Lib.atoiSat l),.err]
theorem Atoi_spec (s:ByteArray) (hs:s.size≤100000000) (hn:isSyn (Lib.atoiAll (bytesOf s))=false):Spec Tryz.prog 257 [pp (.str s)] [] (atoiR (bytesOf s)) []:=by
 refine Spec.of_below (by kernel_rfl) fun G w vs hW hr=>?_
 obtain rfl:=vs_one hr
 cases h:Lib.atoiAll (bytesOf s) with
 |ok v=>
   refine (Tryz.strconv_Atoi_ok s (by omega) v h w).mono ?_
   rintro e w' ⟨rfl,hw⟩
   refine ⟨_,rfl,?_,?_⟩
   · rw[atoiR,h]
     exact ⟨_,rfl,⟨_,_,rfl,rfl,⟨_,_,rfl,rfl,rfl⟩⟩⟩
   · rcases hw with rfl|⟨t,rfl⟩
     · exact RowKit.Below.refl _ _
     · exact bytesWorld_below _ _ _
 |range=>
   obtain ⟨⟨cs,T,fr,h1,h0⟩,_⟩:=hW.glob 5 (by simp[gvars])
   rw[gcells,if_pos rfl] at h0
   obtain ⟨t,u,rfl⟩:=h0
   refine (Tryz.strconv_Atoi_range s (by omega) h (.iface t u) w (by rw[cell_row h1];rfl) (.inr ⟨t,u,rfl⟩)).mono ?_
   rintro e w' ⟨N,rfl,_,_,hB⟩
   refine ⟨_,rfl,?_,hB⟩
   rw[atoiR,h]
   exact ⟨_,rfl,⟨_,_,rfl,rfl,⟨_,_,rfl,⟨_,_,rfl⟩,rfl⟩⟩⟩
 |_=>rw[h] at hn;cases hn
theorem vs_two {G:Gh}{s t:ByteArray}{vs:Array Value}(h:RepSVs G [] [pp (.str s),pp (.str t)] vs.toList):vs=#[.string s,.string t]:=by
 simp only[RepSVs,pp,RepSV,RepSC,Rep] at h
 obtain ⟨v,rest,h1,rfl,v',rest',rfl,rfl,h3⟩:=h
 subst h3
 exact Array.toList_inj.1 h1
theorem Index1_spec (s:ByteArray) (c:UInt8):Spec Tryz.prog 262 [pp (.str s),pp (.str ⟨#[c]⟩)] [] (.int .i64 (Lib.indexByte (bytesOf s) c)) []:=by
 refine Spec.of_below (by kernel_rfl) fun G w vs hW hr=>?_
 obtain rfl:=vs_two hr
 refine (Tryz.stringslite_Index_one s c w).mono ?_
 rintro e w' ⟨rfl,rfl⟩
 exact ⟨_,rfl,rfl,RowKit.Below.refl _ _⟩
/-! Numbers -/
def isDig (b:UInt8):Bool:=ofF b.toNat==3
def numF (l:List UInt8):Int×Int:=
 if l.isEmpty||(decide (1<l.length)&&l.head? == some 48) then (0,3) else
 if l.all isDig then (match Lib.atoiAll l with
   | .ok v=>if v>4503599627370496 then (0,6) else (v,0)
   |_=>(0,6)) else (0,3)
theorem isDig_iff (b:UInt8):isDig b=true↔48≤b.toNat∧b.toNat≤57:=by
 rw[isDig,beq_iff_eq,ofF]
 (repeat' split)<;>omega
theorem parse_dig:∀(l:List UInt8) (acc:Nat),l.all isDig=true→isSyn (Lib.parseUint10 acc l)=false
 | [],acc,_=>by rw[Lib.parseUint10,isSyn]
 |c::r,acc,h=>by
   simp only[List.all_cons,Bool.and_eq_true] at h
   rw[Lib.parseUint10,if_pos ((isDig_iff c).1 h.1)]
   split
   · rfl
   · split
     · rfl
     · exact parse_dig r _ h.2
theorem atoi_dig (l:List UInt8) (h0:l≠[]) (h:l.all isDig=true):isSyn (Lib.atoiAll l)=false:=by
 cases l with
 |nil=>exact absurd rfl h0
 |cons c r=>
   have hc:48≤c.toNat∧c.toNat≤57:=by
     simp only[List.all_cons,Bool.and_eq_true] at h
     exact (isDig_iff c).1 h.1
   have hm:isSyn (Lib.parseMag (c::r))=false:=by
     rw[Lib.parseMag,if_neg (by simp)]
     exact parse_dig _ 0 h
   simp only[Lib.atoiAll]
   rw[if_neg (by omega)]
   cases hp:Lib.parseMag (c::r) with
   |ok u=>
     simp only
     split
     · rfl
     · split<;>rfl
   |range=>rfl
   |_=>rw[hp] at hm;cases hm
theorem Number_spec (s:ByteArray) (hs:s.size≤100000000):Spec Tryz.prog 244 [pp (.str s)] [] (.tuple [.int .i64 (numF (bytesOf s)).1,.int .i64 (numF (bytesOf s)).2]) []:=by
 refine wk (rv:=[.tmp 2,.tmp 3]) ann244 43 Tryz.func244 ?_
 have hmx:s.size≤maxLen:=by rw[maxLen_eq];omega
 have hA:=Atoi_spec s hs
 have hl:=size_bytes s
 generalize h0:numF (bytesOf s)=res
 have hb0:(bytesOf s).isEmpty=(bytesOf s).isEmpty:=rfl
 simp only[go_sem,empty_iff]
 revert h0 hA hl
 rw[bytesOf]
 generalize hbs:s.data.toList=bs
 intro hA hl h0
 cases bs with
 |nil=>
   simp only[go_sem]
   rw[←h0];rfl
 |cons c r=>
   simp only[go_sem,hl]
   have hc:((c.toNat:Int)==48)=(c==48):=by
     rw[Bool.eq_iff_iff,beq_iff_eq,beq_iff_eq,←UInt8.toNat_inj]
     constructor
     · intro h;have:c.toNat=48:=by omega
       rw[this];rfl
     · intro h;rw[h];rfl
   have hz1:decide (1<(c::r).length)=decide (((r.length+1:Nat):Int)>1):=by
     rw[Bool.eq_iff_iff,decide_eq_true_iff,decide_eq_true_iff,List.length_cons];omega
   refine guardK_intro (fun hb=>?_) (fun hb=>?_)
   case' cons.refine_1=>
     simp only[go_sem,hbs,Int.reduceToNat,Int.reduceLE,List.getElem?_cons_zero]
     refine condK_intro (fun hd=>?_) (fun hd=>?_)
   case' cons.refine_1.refine_1=>
     simp only[go_sem]
     rw[hc] at hd
     have hd':=eq_of_beq hd
     rw[←h0,numF,hz1,hb,hd'];simp
   all_goals
     have hz:(decide (1<(c::r).length)&&(c::r).head? == some 48)=false:=by
       rw[hz1]
       first
         | (rw[hc] at hd;simp[hd])
         | (rw[hb];simp)
     have h1:(if (c::r).all isDig then (match Lib.atoiAll (c::r) with
       | .ok v=>if v>4503599627370496 then (0,6) else (v,0)
       |_=>(0,6)) else (0,3):Int×Int)=res:=by
       rw[←h0,numF,hz];simp
     have hne:c::r≠[]:=by simp
     clear h0 hz hz1
     generalize c::r=bs at *
     rw[hl] at hmx
     simp only[go_sem,hl,hmx,hbs,List.length_map]
     refine aLoop_list (α:=UInt8) (β:=List UInt8) (fun rest pre=>⟨[(23,ii pre.length),(21,pp (.slice (bs.map fun b=>.int .u8 b.toNat))),(0,pp (.str s)),(22,ii bs.length)],[],[]⟩)
       (fun rest pre=>bs=pre++rest∧pre.all isDig=true) ?_ ?_ bs [] _ ?_ ⟨rfl,rfl⟩
     · rintro pre ⟨h4,h5⟩ K
       rw[List.append_nil] at h4
       subst h4
       simp only[go_sem,lt_false (Int.le_refl _)]
       refine aCall_intro (hA (atoi_dig _ hne h5)) ?_
       rw[h5,if_pos rfl] at h1
       cases hv:Lib.atoiAll bs with
       |ok v=>
         have hr:atoiR bs=.tuple [.int .i64 v,.nili]:=by rw[atoiR,hv]
         simp only[hv] at h1
         rw[hr]
         simp only[go_sem]
         refine condK_intro (fun hd=>?_) (fun hd=>?_)
         · rw[if_pos (of_decide_eq_true hd)] at h1
           subst h1
           simp only[go_sem]
         · rw[if_neg (of_decide_eq_false hd)] at h1
           subst h1
           simp only[go_sem]
       |range=>
         have hr:atoiR bs=.tuple [.int .i64 (Lib.atoiSat bs),.err]:=by rw[atoiR,hv]
         simp only[hv] at h1
         rw[hr]
         subst h1
         simp only[go_sem]
       |_=>
         have hs':=atoi_dig _ hne h5
         rw[hv] at hs'
         cases hs'
     · rintro x rest pre ⟨h4,h5⟩ K hK
       have hx:(bs.map fun b:UInt8=>PV.int .u8 b.toNat)[pre.length]? = some (.int .u8 x.toNat):=by simp[h4]
       have hlt:(pre.length:Int)<bs.length:=by rw[h4];simp;omega
       have hll:bs.length=pre.length+(rest.length+1):=by rw[h4];simp
       simp only[go_sem,decide_eq_true hlt,Int.toNat_natCast,Int.natCast_nonneg,hx]
       refine aCall_intro (of_spec x.toNat) ?_
       simp only[go_sem]
       refine condK_intro (fun hb=>?_) (fun hb=>?_)
       · have hb':isDig x=false:=by simpa [isDig] using hb
         have:bs.all isDig=false:=by rw[h4];simp[hb']
         rw[this,if_neg (by simp)] at h1
         subst h1
         simp only[go_sem]
       · have hb':isDig x=true:=by simpa [isDig] using hb
         have w4:IntKind.i64.wrap ((pre.length:Int)+1)=((pre++[x]).length:Int):=by rw[wrap_id (by omega) (by omega)];simp
         simp only[go_sem,w4]
         refine hK (pre++[x]) _ ?_ ⟨by simp[h4],by simp[h5,hb']⟩
         simp only[go_sem]
     · simp only[go_sem,List.length_nil,Int.natCast_zero]
/-! The names of constants -/
def constF (s:ByteArray):Bool:=
 if 0≤Lib.indexByte (bytesOf s) 46 then
   decide (s.size≤48)&&(nameF (s.extract 0 (Lib.indexByte (bytesOf s) 46).toNat) 2&&((numF (bytesOf (s.extract ((Lib.indexByte (bytesOf s) 46).toNat+1) s.size))).2==0))
 else false
theorem idx_bound:∀(l:List UInt8) (c:UInt8),-1≤Lib.indexByte l c∧Lib.indexByte l c<l.length
 | [],c=>by simp[Lib.indexByte]
 |b::l,c=>by
   have:=idx_bound l c
   rw[Lib.indexByte,List.length_cons]
   split
   · omega
   · split
     · omega
     · omega
def cutR (s:ByteArray):PV:=
 if 0≤Lib.indexByte (bytesOf s) 46 then .tuple [.str (s.extract 0 (Lib.indexByte (bytesOf s) 46).toNat),.str (s.extract ((Lib.indexByte (bytesOf s) 46).toNat+1) s.size),.bool true]
 else .tuple [.str s,.str ⟨#[]⟩,.bool false]
theorem slCut_spec (s:ByteArray) (hs:s.size≤100000000):Spec Tryz.prog 256 [pp (.str s),pp (.str ⟨#[46]⟩)] [] (cutR s) []:=by
 refine wk (rv:=[.tmp 4,.tmp 5,.tmp 6]) ann256 23 Tryz.func256 ?_
 have hI:=Index1_spec s 46
 have hb:=idx_bound (bytesOf s) 46
 rw[←size_bytes] at hb
 rw[cutR]
 generalize Lib.indexByte (bytesOf s) 46=idx at hI hb
 simp only[go_sem]
 refine aCall_intro hI ?_
 simp only[go_sem]
 refine condK_intro (fun hd=>?_) (fun hd=>?_)
 · have hd':0≤idx:=of_decide_eq_true hd
   have w1:IntKind.i64.wrap (idx+1)=idx+1:=wrap_id (by omega) (by omega)
   have t1:idx≤s.size:=by omega
   have t2:0≤idx+1:=by omega
   have t4:idx+1≤s.size:=by omega
   have t3:(idx+1).toNat=idx.toNat+1:=by omega
   have h1:((#[46]:Array UInt8).size:Int)=1:=rfl
   rw[if_pos hd']
   simp only[go_sem,h1,w1,t1,t2,t3,t4,hd',and_self,Int.toNat_natCast,Int.le_refl]
 · have hd':¬0≤idx:=by have:=of_decide_eq_false hd;omega
   rw[if_neg hd']
   simp only[go_sem]
theorem Cut_spec (s:ByteArray) (hs:s.size≤100000000):Spec Tryz.prog 243 [pp (.str s),pp (.str ⟨#[46]⟩)] [] (cutR s) []:=by
 refine wk (rv:=[.tmp 4,.tmp 5,.tmp 6]) ann243 13 Tryz.func243 ?_
 simp only[go_sem]
 refine aCall_intro (slCut_spec s hs) ?_
 rw[cutR]
 split<;>simp only[go_sem]
theorem extract_le (s:ByteArray) (a b:Nat) (hs:s.size≤100000000):(s.extract a b).size≤100000000:=by
 rw[ByteArray.size_extract];omega
theorem constant_spec (s:ByteArray) (hs:s.size≤100000000):Spec Tryz.prog 221 [pp (.str s)] [] (.bool (constF s)) []:=by
 refine wk (rv:=[.tmp 2]) ann221 33 Tryz.func221 ?_
 have hC:=Cut_spec s hs
 rw[cutR] at hC
 rw[constF]
 split at hC
 · rename_i hd
   rw[if_pos hd]
   have hN:=Number_spec (s.extract ((Lib.indexByte (bytesOf s) 46).toNat+1) s.size) (extract_le _ _ _ hs)
   have hU:=IsUpper_spec (s.extract 0 (Lib.indexByte (bytesOf s) 46).toNat)
   generalize Lib.indexByte (bytesOf s) 46=idx at hC hN hU
   generalize s.extract 0 idx.toNat=a at hC hU
   generalize s.extract (idx.toNat+1) s.size=b at hC hN
   simp only[go_sem]
   refine aCall_intro hC ?_
   simp only[go_sem]
   refine aCall_intro hN ?_
   simp only[go_sem]
   repeat' ((first|refine condK_intro (fun _=>?_) (fun _=>?_)|refine guardK_intro (fun _=>?_) (fun _=>?_)|refine aCall_intro hU ?_)<;>simp only[go_sem,List.length_map])
   all_goals
     have hdd:decide (s.size≤48)=decide ((s.size:Int)≤48):=by rw[Bool.eq_iff_iff,decide_eq_true_iff,decide_eq_true_iff];omega
     rw[hdd]
     clear hdd hs hd hC hN hU
     simp only[*,Bool.true_and,Bool.false_and,Bool.and_false,Bool.not_true]
 · rename_i hd
   rw[if_neg hd]
   have hN:=Number_spec ⟨#[]⟩ (by decide)
   simp only[go_sem]
   refine aCall_intro hC ?_
   simp only[go_sem]
   refine aCall_intro hN ?_
   simp only[go_sem]
theorem rSmall_spec (n:Int):Spec Tryz.prog 217 [pp (.int .u8 n)] [] (.bool (decide (n≥97)&&decide (n≤122))) []:=by
 refine wk (rv:=[.tmp 2]) ann217 9 Tryz.func217 ?_
 simp only[go_sem]
 repeat' ((first|refine condK_intro (fun _=>?_) (fun _=>?_)|refine guardK_intro (fun _=>?_) (fun _=>?_))<;>simp only[go_sem,List.length_map])
 all_goals simp only[*,Bool.true_and,Bool.false_and,Bool.and_false,Bool.not_true]
theorem rCapital_spec (n:Int):Spec Tryz.prog 218 [pp (.int .u8 n)] [] (.bool (decide (n≥65)&&decide (n≤90))) []:=by
 refine wk (rv:=[.tmp 2]) ann218 9 Tryz.func218 ?_
 simp only[go_sem]
 repeat' ((first|refine condK_intro (fun _=>?_) (fun _=>?_)|refine guardK_intro (fun _=>?_) (fun _=>?_))<;>simp only[go_sem,List.length_map])
 all_goals simp only[*,Bool.true_and,Bool.false_and,Bool.and_false,Bool.not_true]
theorem rDigit_spec (n:Int):Spec Tryz.prog 219 [pp (.int .u8 n)] [] (.bool (ofF n==3)) []:=by
 refine wk (rv:=[.tmp 2]) ann219 9 Tryz.func219 ?_
 have h:(ofF n==3)=(decide (n≥48)&&decide (n≤57)):=by
   rw[Bool.eq_iff_iff,beq_iff_eq,Bool.and_eq_true,decide_eq_true_iff,decide_eq_true_iff,ofF]
   (repeat' split)<;>omega
 rw[h]
 simp only[go_sem]
 repeat' ((first|refine condK_intro (fun _=>?_) (fun _=>?_)|refine guardK_intro (fun _=>?_) (fun _=>?_))<;>simp only[go_sem,List.length_map])
 all_goals simp only[*,Bool.true_and,Bool.false_and,Bool.and_false,Bool.not_true]
theorem rInner_spec (n:Int):Spec Tryz.prog 194 [pp (.int .u8 n)] [] (.bool (ofF n != 0&&ofF n != 5)) []:=by
 refine wk (rv:=[.tmp 2]) ann194 17 Tryz.func194 ?_
 have h:(ofF n != 0&&ofF n != 5)=((decide (n≥97)&&decide (n≤122))||((decide (n≥65)&&decide (n≤90))||((ofF n==3)||(n==95)))):=by
   rw[Bool.eq_iff_iff]
   simp only[Bool.and_eq_true,Bool.or_eq_true,decide_eq_true_iff,beq_iff_eq,bne_iff_ne,ne_eq,ofF]
   (repeat' split)<;>omega
 rw[h]
 have h1:=rSmall_spec n
 have h2:=rCapital_spec n
 have h3:=rDigit_spec n
 generalize (decide (n≥97)&&decide (n≤122))=a at h1
 generalize (decide (n≥65)&&decide (n≤90))=b at h2
 generalize (ofF n==3)=c at h3
 simp only[go_sem]
 repeat' ((first|refine condK_intro (fun _=>?_) (fun _=>?_)|refine guardK_intro (fun _=>?_) (fun _=>?_)|refine aCall_intro h1 ?_|refine aCall_intro h2 ?_|refine aCall_intro h3 ?_)<;>simp only[go_sem,List.length_map])
 all_goals (clear h1 h2 h3 h;simp only[*,Bool.true_or,Bool.false_or,Bool.or_true,Bool.or_false,Bool.not_false])
theorem notEmpty_iff (s:ByteArray):(!(bytesOf s).isEmpty)=decide ((s.size:Int)≥1):=by
 have:=size_bytes s
 cases h:bytesOf s with
 |nil=>rw[h] at this;rw[this];rfl
 |cons c r=>rw[h] at this;rw[this];simp;omega
theorem le_cast (s:ByteArray) (n:Nat):decide (s.size≤n)=decide ((s.size:Int)≤n):=by rw[Bool.eq_iff_iff,decide_eq_true_iff,decide_eq_true_iff];omega
/-! Numbers -/
/-! Kinds -/
end Go.Abs.Kon
