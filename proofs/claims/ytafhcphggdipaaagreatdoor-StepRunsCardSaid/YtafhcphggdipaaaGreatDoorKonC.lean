/- Contracts of functions: numbers, names of constants, kinds of the reference. -/
import Derived.Test.YtafhcphggdipaaaGreatDoorKonB
import Derived.Test.YtafhcphggdipaaaGreatDoorShelfA
import Derived.Below
set_option linter.unusedSimpArgs false
namespace Go.Abs.Kon
open Go Go.Proofs Go.Abs
set_option maxRecDepth 100000
set_option maxHeartbeats 4000000
theorem below_ext {G:Gh}{w w':World}(hW:WInv G w) (hB:RowKit.Below w.heap.size w w') (mods:Nm→Prop) (us:Nat→Prop):WInv G w'∧Ext G G w w' mods us:=by
 have hE:Ext G G w w' mods us:=⟨Imm.le_refl _,fun _ _ _ h=>.inl h,fun _ _=>rfl,fun _ _ h=>h,fun _ _ h=>.inl h,fun _ _ _ h=>h,fun _ _ _ h _=>.inl h,fun b hb _ _=>hB.block b hb,hB.size,hB.os,hB.tape,hB.output,fun _ _=>rfl⟩
 refine ⟨⟨fun b o v hv=>?_,hW.inj,fun n b h=>Nat.lt_of_lt_of_le (hW.lt n b h) hB.size,hW.blkImm,fun t tk ht=>?_,hW.tokInj,hW.tokBlk,hW.glob.step hE⟩,hE⟩
 ·rw[World.cell?_of_block (w:=w) (hB.block b (imm_lt hW hv))];exact hW.imm _ _ _ hv
 ·exact (hW.tokOk t tk ht).keep fun g hg=>⟨hB.block g (tok_lt hW ht hg),fun _ _ h=>h⟩
theorem Spec.of_below {f:FuncId}{args:List SV}{r:PV}(hb:bodied Tryz.prog f=true)
  (h:∀(G:Gh) (w:World) (vs:Array Value),WInv G w→RepSVs G [] args vs.toList→Calls Tryz.prog f vs w fun e w'=>∃v,e=.returned v∧Rep G.I r v∧RowKit.Below w.heap.size w w') :
  Spec Tryz.prog f args [] r []:=by
 refine ⟨hb,rfl,fun G w vs hW _ _ _ hr=>(h G w vs hW hr).mono ?_⟩
 rintro e w' ⟨v,he,hv,hB⟩
 obtain ⟨h1,h2⟩:=below_ext hW hB (fun n=>isRef n ([]:List Box).length) (fun _=>True)
 exact ⟨v,G,he,hv,h1,h2,fun j bx hj=>by simp at hj⟩
theorem bytesWorld_below (w:World) (e:TypeId) (s:ByteArray):RowKit.Below w.heap.size w (Lib.bytesWorld w e s):=
 ⟨rfl,rfl,rfl,by rw[Lib.bytesWorld_size];omega,fun k hk=>Lib.bytesWorld_at_old w e s k hk⟩
theorem vs_one {G:Gh}{s:ByteArray}{vs:Array Value}(h:RepSVs G [] [pp (.str s)] vs.toList):vs=#[.string s]:=by
 simp only[RepSVs,pp,RepSV,RepSC,Rep] at h
 obtain ⟨v,rest,h1,rfl,h3⟩:=h
 subst h3
 exact Array.toList_inj.1 h1
def isSyn {α:Type}:Lib.NumEnd α→Bool
 | .ok _=>false
 | .range=>false
 |_=>true
def atoiR (l:List UInt8):PV:=match Lib.atoiAll l with
 | .ok v=>.tuple [.int .i64 v,.nili]
 |_=>.tuple [.int .i64 (Lib.atoiSat l),.err]
theorem Atoi_spec (s:ByteArray) (hs:s.size≤100000000) (hn:isSyn (Lib.atoiAll (bytesOf s))=false):Spec Tryz.prog 217 [pp (.str s)] [] (atoiR (bytesOf s)) []:=by
 refine Spec.of_below (by kernel_rfl) fun G w vs hW hr=>?_
 obtain rfl:=vs_one hr
 cases h:Lib.atoiAll (bytesOf s) with
 |ok v=>
  refine (Tryz.strconv_Atoi_ok s (by omega) v h w).mono ?_
  rintro e w' ⟨rfl,hw⟩
  refine ⟨_,rfl,?_,?_⟩
  ·rw[atoiR,h]
   exact ⟨_,rfl,⟨_,_,rfl,rfl,⟨_,_,rfl,rfl,rfl⟩⟩⟩
  ·rcases hw with rfl|⟨t,rfl⟩
   ·exact RowKit.Below.refl _ _
   ·exact bytesWorld_below _ _ _
 |range=>
  obtain ⟨⟨cs,T,fr,h1,h0⟩,_⟩:=hW.glob 2 (by simp[gvars])
  rw[gcells,if_pos rfl] at h0
  obtain ⟨t,u,rfl⟩:=h0
  refine (Tryz.strconv_Atoi_range s (by omega) h (.iface t u) w (by rw[cell_row h1];rfl) (.inr ⟨t,u,rfl⟩)).mono ?_
  rintro e w' ⟨N,rfl,_,_,hB⟩
  refine ⟨_,rfl,?_,hB⟩
  rw[atoiR,h]
  exact ⟨_,rfl,⟨_,_,rfl,rfl,⟨_,_,rfl,⟨_,_,rfl⟩,rfl⟩⟩⟩
 |_=>rw[h] at hn;cases hn
theorem vs_two {G:Gh}{s t:ByteArray}{vs:Array Value}(h:RepSVs G [] [pp (.str s),pp (.str t)] vs.toList):vs=#[.string s,.string t]:=by
 simp only[RepSVs,pp,RepSV,RepSC,Rep] at h
 obtain ⟨v,rest,h1,rfl,v',rest',rfl,rfl,h3⟩:=h
 subst h3
 exact Array.toList_inj.1 h1
theorem Index1_spec (s:ByteArray) (c:UInt8):Spec Tryz.prog 240 [pp (.str s),pp (.str ⟨#[c]⟩)] [] (.int .i64 (Lib.indexByte (bytesOf s) c)) []:=by
 refine Spec.of_below (by kernel_rfl) fun G w vs hW hr=>?_
 obtain rfl:=vs_two hr
 refine (Tryz.stringslite_Index_one s c w).mono ?_
 rintro e w' ⟨rfl,rfl⟩
 exact ⟨_,rfl,rfl,RowKit.Below.refl _ _⟩
/-! Numbers -/
def isDig (b:UInt8):Bool:=ofF b.toNat==3
def numF (l:List UInt8):Int×Int:=
 if l.isEmpty||(decide (1<l.length)&&l.head? == some 48) then (0,3) else
 if l.all isDig then (match Lib.atoiAll l with
  | .ok v=>if v>4503599627370496 then (0,6) else (v,0)
  |_=>(0,6)) else (0,3)
theorem isDig_iff (b:UInt8):isDig b=true↔48≤b.toNat∧b.toNat≤57:=by
 rw[isDig,beq_iff_eq,ofF]
 (repeat' split)<;>omega
theorem parse_dig:∀(l:List UInt8) (acc:Nat),l.all isDig=true→isSyn (Lib.parseUint10 acc l)=false
 | [],acc,_=>by rw[Lib.parseUint10,isSyn]
 |c::r,acc,h=>by
  simp only[List.all_cons,Bool.and_eq_true] at h
  rw[Lib.parseUint10,if_pos ((isDig_iff c).1 h.1)]
  split
  ·rfl
  ·split
   ·rfl
   ·exact parse_dig r _ h.2
theorem atoi_dig (l:List UInt8) (h0:l≠[]) (h:l.all isDig=true):isSyn (Lib.atoiAll l)=false:=by
 cases l with
 |nil=>exact absurd rfl h0
 |cons c r=>
  have hc:48≤c.toNat∧c.toNat≤57:=by
   simp only[List.all_cons,Bool.and_eq_true] at h
   exact (isDig_iff c).1 h.1
  have hm:isSyn (Lib.parseMag (c::r))=false:=by
   rw[Lib.parseMag,if_neg (by simp)]
   exact parse_dig _ 0 h
  simp only[Lib.atoiAll]
  rw[if_neg (by omega)]
  cases hp:Lib.parseMag (c::r) with
  |ok u=>
   simp only
   split
   ·rfl
   ·split<;>rfl
  |range=>rfl
  |_=>rw[hp] at hm;cases hm
theorem Number_spec (s:ByteArray) (hs:s.size≤100000000):Spec Tryz.prog 184 [pp (.str s)] [] (.tuple [.int .i64 (numF (bytesOf s)).1,.int .i64 (numF (bytesOf s)).2]) []:=by
 refine wk (rv:=[.tmp 2,.tmp 3]) ann184 43 Tryz.func184 ?_
 have hmx:s.size≤maxLen:=by rw[maxLen_eq];omega
 have hA:=Atoi_spec s hs
 have hl:=size_bytes s
 generalize h0:numF (bytesOf s)=res
 have hb0:(bytesOf s).isEmpty=(bytesOf s).isEmpty:=rfl
 simp only[go_sem,empty_iff]
 revert h0 hA hl
 rw[bytesOf]
 generalize hbs:s.data.toList=bs
 intro hA hl h0
 cases bs with
 |nil=>
  simp only[go_sem]
  rw[←h0];rfl
 |cons c r=>
  simp only[go_sem,hl]
  have hc:((c.toNat:Int)==48)=(c==48):=by
   rw[Bool.eq_iff_iff,beq_iff_eq,beq_iff_eq,←UInt8.toNat_inj]
   constructor
   ·intro h;have:c.toNat=48:=by omega
    rw[this];rfl
   ·intro h;rw[h];rfl
  have hz1:decide (1<(c::r).length)=decide (((r.length+1:Nat):Int)>1):=by
   rw[Bool.eq_iff_iff,decide_eq_true_iff,decide_eq_true_iff,List.length_cons];omega
  refine guardK_intro (fun hb=>?_) (fun hb=>?_)
  case' cons.refine_1=>
   simp only[go_sem,hbs,Int.reduceToNat,Int.reduceLE,List.getElem?_cons_zero]
   refine condK_intro (fun hd=>?_) (fun hd=>?_)
  case' cons.refine_1.refine_1=>
   simp only[go_sem]
   rw[hc] at hd
   have hd':=eq_of_beq hd
   rw[←h0,numF,hz1,hb,hd'];simp
  all_goals
   have hz:(decide (1<(c::r).length)&&(c::r).head? == some 48)=false:=by
    rw[hz1]
    first
     | (rw[hc] at hd;simp[hd])
     | (rw[hb];simp)
   have h1:(if (c::r).all isDig then (match Lib.atoiAll (c::r) with
    | .ok v=>if v>4503599627370496 then (0,6) else (v,0)
    |_=>(0,6)) else (0,3):Int×Int)=res:=by
    rw[←h0,numF,hz];simp
   have hne:c::r≠[]:=by simp
   clear h0 hz hz1
   generalize c::r=bs at *
   rw[hl] at hmx
   simp only[go_sem,hl,hmx,hbs,List.length_map]
   refine aLoop_list (α:=UInt8) (β:=List UInt8) (fun rest pre=>⟨[(23,ii pre.length),(21,pp (.slice (bs.map fun b=>.int .u8 b.toNat))),(0,pp (.str s)),(22,ii bs.length)],[],[]⟩)
    (fun rest pre=>bs=pre++rest∧pre.all isDig=true) ?_ ?_ bs [] _ ?_ ⟨rfl,rfl⟩
   ·rintro pre ⟨h4,h5⟩ K
    rw[List.append_nil] at h4
    subst h4
    simp only[go_sem,lt_false (Int.le_refl _)]
    refine aCall_intro (hA (atoi_dig _ hne h5)) ?_
    rw[h5,if_pos rfl] at h1
    cases hv:Lib.atoiAll bs with
    |ok v=>
     have hr:atoiR bs=.tuple [.int .i64 v,.nili]:=by rw[atoiR,hv]
     simp only[hv] at h1
     rw[hr]
     simp only[go_sem]
     refine condK_intro (fun hd=>?_) (fun hd=>?_)
     ·rw[if_pos (of_decide_eq_true hd)] at h1
      subst h1
      simp only[go_sem]
     ·rw[if_neg (of_decide_eq_false hd)] at h1
      subst h1
      simp only[go_sem]
    |range=>
     have hr:atoiR bs=.tuple [.int .i64 (Lib.atoiSat bs),.err]:=by rw[atoiR,hv]
     simp only[hv] at h1
     rw[hr]
     subst h1
     simp only[go_sem]
    |_=>
     have hs':=atoi_dig _ hne h5
     rw[hv] at hs'
     cases hs'
   ·rintro x rest pre ⟨h4,h5⟩ K hK
    have hx:(bs.map fun b:UInt8=>PV.int .u8 b.toNat)[pre.length]? = some (.int .u8 x.toNat):=by simp[h4]
    have hlt:(pre.length:Int)<bs.length:=by rw[h4];simp;omega
    have hll:bs.length=pre.length+(rest.length+1):=by rw[h4];simp
    simp only[go_sem,decide_eq_true hlt,Int.toNat_natCast,Int.natCast_nonneg,hx]
    refine aCall_intro (of_spec x.toNat) ?_
    simp only[go_sem]
    refine condK_intro (fun hb=>?_) (fun hb=>?_)
    ·have hb':isDig x=false:=by simpa [isDig] using hb
     have:bs.all isDig=false:=by rw[h4];simp[hb']
     rw[this,if_neg (by simp)] at h1
     subst h1
     simp only[go_sem]
    ·have hb':isDig x=true:=by simpa [isDig] using hb
     have w4:IntKind.i64.wrap ((pre.length:Int)+1)=((pre++[x]).length:Int):=by rw[wrap_id (by omega) (by omega)];simp
     simp only[go_sem,w4]
     refine hK (pre++[x]) _ ?_ ⟨by simp[h4],by simp[h5,hb']⟩
     simp only[go_sem]
   ·simp only[go_sem,List.length_nil,Int.natCast_zero]
/-! The names of constants -/
def constF (s:ByteArray):Bool:=
 if 0≤Lib.indexByte (bytesOf s) 46 then
  decide (s.size≤48)&&(nameF (s.extract 0 (Lib.indexByte (bytesOf s) 46).toNat) 2&&((numF (bytesOf (s.extract ((Lib.indexByte (bytesOf s) 46).toNat+1) s.size))).2==0))
 else false
theorem idx_bound:∀(l:List UInt8) (c:UInt8),-1≤Lib.indexByte l c∧Lib.indexByte l c<l.length
 | [],c=>by simp[Lib.indexByte]
 |b::l,c=>by
  have:=idx_bound l c
  rw[Lib.indexByte,List.length_cons]
  split
  ·omega
  ·split
   ·omega
   ·omega
def cutR (s:ByteArray):PV:=
 if 0≤Lib.indexByte (bytesOf s) 46 then .tuple [.str (s.extract 0 (Lib.indexByte (bytesOf s) 46).toNat),.str (s.extract ((Lib.indexByte (bytesOf s) 46).toNat+1) s.size),.bool true]
 else .tuple [.str s,.str ⟨#[]⟩,.bool false]
theorem slCut_spec (s:ByteArray) (hs:s.size≤100000000):Spec Tryz.prog 216 [pp (.str s),pp (.str ⟨#[46]⟩)] [] (cutR s) []:=by
 refine wk (rv:=[.tmp 4,.tmp 5,.tmp 6]) ann216 23 Tryz.func216 ?_
 have hI:=Index1_spec s 46
 have hb:=idx_bound (bytesOf s) 46
 rw[←size_bytes] at hb
 rw[cutR]
 generalize Lib.indexByte (bytesOf s) 46=idx at hI hb
 simp only[go_sem]
 refine aCall_intro hI ?_
 simp only[go_sem]
 refine condK_intro (fun hd=>?_) (fun hd=>?_)
 ·have hd':0≤idx:=of_decide_eq_true hd
  have w1:IntKind.i64.wrap (idx+1)=idx+1:=wrap_id (by omega) (by omega)
  have t1:idx≤s.size:=by omega
  have t2:0≤idx+1:=by omega
  have t4:idx+1≤s.size:=by omega
  have t3:(idx+1).toNat=idx.toNat+1:=by omega
  have h1:((#[46]:Array UInt8).size:Int)=1:=rfl
  rw[if_pos hd']
  simp only[go_sem,h1,w1,t1,t2,t3,t4,hd',and_self,Int.toNat_natCast,Int.le_refl]
 ·have hd':¬0≤idx:=by have:=of_decide_eq_false hd;omega
  rw[if_neg hd']
  simp only[go_sem]
theorem Cut_spec (s:ByteArray) (hs:s.size≤100000000):Spec Tryz.prog 183 [pp (.str s),pp (.str ⟨#[46]⟩)] [] (cutR s) []:=by
 refine wk (rv:=[.tmp 4,.tmp 5,.tmp 6]) ann183 13 Tryz.func183 ?_
 simp only[go_sem]
 refine aCall_intro (slCut_spec s hs) ?_
 rw[cutR]
 split<;>simp only[go_sem]
theorem extract_le (s:ByteArray) (a b:Nat) (hs:s.size≤100000000):(s.extract a b).size≤100000000:=by
 rw[ByteArray.size_extract];omega
theorem constant_spec (s:ByteArray) (hs:s.size≤100000000):Spec Tryz.prog 147 [pp (.str s)] [] (.bool (constF s)) []:=by
 refine wk (rv:=[.tmp 2]) ann147 33 Tryz.func147 ?_
 have hC:=Cut_spec s hs
 rw[cutR] at hC
 rw[constF]
 split at hC
 ·rename_i hd
  rw[if_pos hd]
  have hN:=Number_spec (s.extract ((Lib.indexByte (bytesOf s) 46).toNat+1) s.size) (extract_le _ _ _ hs)
  have hU:=IsUpper_spec (s.extract 0 (Lib.indexByte (bytesOf s) 46).toNat)
  generalize Lib.indexByte (bytesOf s) 46=idx at hC hN hU
  generalize s.extract 0 idx.toNat=a at hC hU
  generalize s.extract (idx.toNat+1) s.size=b at hC hN
  simp only[go_sem]
  refine aCall_intro hC ?_
  simp only[go_sem]
  refine aCall_intro hN ?_
  simp only[go_sem]
  repeat' ((first|refine condK_intro (fun _=>?_) (fun _=>?_)|refine guardK_intro (fun _=>?_) (fun _=>?_)|refine aCall_intro hU ?_)<;>simp only[go_sem,List.length_map])
  all_goals
   have hdd:decide (s.size≤48)=decide ((s.size:Int)≤48):=by rw[Bool.eq_iff_iff,decide_eq_true_iff,decide_eq_true_iff];omega
   rw[hdd]
   clear hdd hs hd hC hN hU
   simp only[*,Bool.true_and,Bool.false_and,Bool.and_false,Bool.not_true]
 ·rename_i hd
  rw[if_neg hd]
  have hN:=Number_spec ⟨#[]⟩ (by decide)
  simp only[go_sem]
  refine aCall_intro hC ?_
  simp only[go_sem]
  refine aCall_intro hN ?_
  simp only[go_sem]
theorem rSmall_spec (n:Int):Spec Tryz.prog 229 [pp (.int .u8 n)] [] (.bool (decide (n≥97)&&decide (n≤122))) []:=by
 refine wk (rv:=[.tmp 2]) ann229 9 Tryz.func229 ?_
 simp only[go_sem]
 repeat' ((first|refine condK_intro (fun _=>?_) (fun _=>?_)|refine guardK_intro (fun _=>?_) (fun _=>?_))<;>simp only[go_sem,List.length_map])
 all_goals simp only[*,Bool.true_and,Bool.false_and,Bool.and_false,Bool.not_true]
theorem rCapital_spec (n:Int):Spec Tryz.prog 230 [pp (.int .u8 n)] [] (.bool (decide (n≥65)&&decide (n≤90))) []:=by
 refine wk (rv:=[.tmp 2]) ann230 9 Tryz.func230 ?_
 simp only[go_sem]
 repeat' ((first|refine condK_intro (fun _=>?_) (fun _=>?_)|refine guardK_intro (fun _=>?_) (fun _=>?_))<;>simp only[go_sem,List.length_map])
 all_goals simp only[*,Bool.true_and,Bool.false_and,Bool.and_false,Bool.not_true]
theorem rDigit_spec (n:Int):Spec Tryz.prog 231 [pp (.int .u8 n)] [] (.bool (ofF n==3)) []:=by
 refine wk (rv:=[.tmp 2]) ann231 9 Tryz.func231 ?_
 have h:(ofF n==3)=(decide (n≥48)&&decide (n≤57)):=by
  rw[Bool.eq_iff_iff,beq_iff_eq,Bool.and_eq_true,decide_eq_true_iff,decide_eq_true_iff,ofF]
  (repeat' split)<;>omega
 rw[h]
 simp only[go_sem]
 repeat' ((first|refine condK_intro (fun _=>?_) (fun _=>?_)|refine guardK_intro (fun _=>?_) (fun _=>?_))<;>simp only[go_sem,List.length_map])
 all_goals simp only[*,Bool.true_and,Bool.false_and,Bool.and_false,Bool.not_true]
theorem rInner_spec (n:Int):Spec Tryz.prog 199 [pp (.int .u8 n)] [] (.bool (ofF n != 0&&ofF n != 5)) []:=by
 refine wk (rv:=[.tmp 2]) ann199 17 Tryz.func199 ?_
 have h:(ofF n != 0&&ofF n != 5)=((decide (n≥97)&&decide (n≤122))||((decide (n≥65)&&decide (n≤90))||((ofF n==3)||(n==95)))):=by
  rw[Bool.eq_iff_iff]
  simp only[Bool.and_eq_true,Bool.or_eq_true,decide_eq_true_iff,beq_iff_eq,bne_iff_ne,ne_eq,ofF]
  (repeat' split)<;>omega
 rw[h]
 have h1:=rSmall_spec n
 have h2:=rCapital_spec n
 have h3:=rDigit_spec n
 generalize (decide (n≥97)&&decide (n≤122))=a at h1
 generalize (decide (n≥65)&&decide (n≤90))=b at h2
 generalize (ofF n==3)=c at h3
 simp only[go_sem]
 repeat' ((first|refine condK_intro (fun _=>?_) (fun _=>?_)|refine guardK_intro (fun _=>?_) (fun _=>?_)|refine aCall_intro h1 ?_|refine aCall_intro h2 ?_|refine aCall_intro h3 ?_)<;>simp only[go_sem,List.length_map])
 all_goals (clear h1 h2 h3 h;simp only[*,Bool.true_or,Bool.false_or,Bool.or_true,Bool.or_false,Bool.not_false])
theorem rinner_spec (s:ByteArray) (hs:s.size≤100000000):Spec Tryz.prog 252 [pp (.str s)] [] (.bool ((bytesOf s).all inner)) []:=by
 refine wk (rv:=[.tmp 2]) ann252 15 Tryz.func252 ?_
 have hl:=size_bytes s
 rw[bytesOf] at hl ⊢
 generalize hbs:s.data.toList=bs at hl ⊢
 generalize h0:bs.all inner=res
 simp only[go_sem]
 refine aLoop_list (α:=UInt8) (β:=List UInt8) (fun rest pre=>⟨[(3,ii pre.length),(0,pp (.str s))],[],[]⟩)
  (fun rest pre=>bs=pre++rest∧rest.all inner=res) ?_ ?_ bs [] _ ?_ ⟨rfl,h0⟩
 ·rintro pre ⟨h4,h5⟩ K
  rw[List.append_nil] at h4
  subst h4
  simp only[go_sem,hl,lt_false (Int.le_refl _)]
  rw[←h5];rfl
 ·rintro x rest pre ⟨h4,h5⟩ K hK
  have hx:bs[pre.length]? = some x:=by simp[h4]
  have hlt:(pre.length:Int)<bs.length:=by rw[h4];simp;omega
  have hll:bs.length=pre.length+(rest.length+1):=by rw[h4];simp
  simp only[go_sem,hl,hbs,decide_eq_true hlt,Int.toNat_natCast,Int.natCast_nonneg,hx]
  refine aCall_intro (rInner_spec x.toNat) ?_
  simp only[go_sem]
  refine condK_intro (fun hb=>?_) (fun hb=>?_)
  ·have hb':inner x=false:=by rw[inner];simpa only[Bool.not_eq_true'] using hb
   simp only[List.all_cons,hb',Bool.false_and] at h5
   subst h5
   simp only[go_sem]
  ·have hb':inner x=true:=by simpa [inner] using hb
   have w4:IntKind.i64.wrap ((pre.length:Int)+1)=((pre++[x]).length:Int):=by rw[wrap_id (by omega) (by omega)];simp
   simp only[List.all_cons,hb',Bool.true_and] at h5
   simp only[go_sem,w4]
   refine hK (pre++[x]) _ ?_ ⟨by simp[h4],h5⟩
   simp only[go_sem]
 ·simp only[go_sem,List.length_nil,Int.natCast_zero]
def wordF (s:ByteArray):Bool:=!(bytesOf s).isEmpty&&(decide (s.size≤24)&&(bytesOf s).all inner)
theorem rWord_spec (s:ByteArray) (hs:s.size≤100000000):Spec Tryz.prog 239 [pp (.str s)] [] (.bool (wordF s)) []:=by
 refine wk (rv:=[.tmp 2]) ann239 15 Tryz.func239 ?_
 have h1:=rinner_spec s hs
 have hz:(!(bytesOf s).isEmpty)=decide ((s.size:Int)≥1):=by
  have:=size_bytes s
  cases h:bytesOf s with
  |nil=>rw[h] at this;rw[this];rfl
  |cons c r=>rw[h] at this;rw[this];simp;omega
 have hw:decide (s.size≤24)=decide ((s.size:Int)≤24):=by rw[Bool.eq_iff_iff,decide_eq_true_iff,decide_eq_true_iff];omega
 rw[wordF,hz,hw]
 generalize (bytesOf s).all inner=res at h1
 simp only[go_sem]
 repeat' ((first|refine condK_intro (fun _=>?_) (fun _=>?_)|refine guardK_intro (fun _=>?_) (fun _=>?_)|refine aCall_intro h1 ?_)<;>simp only[go_sem,List.length_map])
 all_goals (clear h1 hz hw hs;simp only[*,Bool.true_and,Bool.false_and,Bool.and_false,Bool.not_true])
theorem rIsUpper_spec (s:ByteArray) (hs:s.size≤100000000):Spec Tryz.prog 215 [pp (.str s)] [] (.bool (nameF s 2)) []:=by
 refine wk (rv:=[.tmp 2]) ann215 10 Tryz.func215 ?_
 have h1:=rWord_spec s hs
 have hr:nameF s 2=(wordF s&&headIs 2 (bytesOf s)):=by
  rw[nameF,wordF]
  cases h:bytesOf s with
  |nil=>simp[headIs]
  |cons c r=>simp only[List.isEmpty_cons,Bool.not_false,Bool.true_and];rw[Bool.and_comm (headIs _ _),Bool.and_assoc]
 rw[hr]
 simp only[go_sem]
 refine aCall_intro h1 ?_
 simp only[go_sem]
 refine guardK_intro (fun hb=>?_) (fun hb=>?_)
 ·rw[hb,Bool.true_and]
  rw[wordF] at hb
  simp only[Bool.and_eq_true] at hb
  rw[bytesOf] at hb ⊢
  cases hbs:s.data.toList with
  |nil=>rw[hbs] at hb;simp at hb
  |cons c r=>
   have h2:=rCapital_spec c.toNat
   have h3:(decide ((c.toNat:Int)≥65)&&decide ((c.toNat:Int)≤90))=headIs 2 (c::r):=by
    simp only[headIs]
    rw[Bool.eq_iff_iff]
    simp only[Bool.and_eq_true,decide_eq_true_iff,beq_iff_eq,ofF]
    (repeat' split)<;>omega
   rw[h3] at h2
   simp only[go_sem,hbs,Int.reduceToNat,Int.reduceLE,List.getElem?_cons_zero]
   refine aCall_intro h2 ?_
   simp only[go_sem]
 ·rw[hb]
  simp only[go_sem]
theorem notEmpty_iff (s:ByteArray):(!(bytesOf s).isEmpty)=decide ((s.size:Int)≥1):=by
 have:=size_bytes s
 cases h:bytesOf s with
 |nil=>rw[h] at this;rw[this];rfl
 |cons c r=>rw[h] at this;rw[this];simp;omega
theorem le_cast (s:ByteArray) (n:Nat):decide (s.size≤n)=decide ((s.size:Int)≤n):=by rw[Bool.eq_iff_iff,decide_eq_true_iff,decide_eq_true_iff];omega
theorem rIsLabel_spec (s:ByteArray) (hs:s.size≤100000000):Spec Tryz.prog 168 [pp (.str s)] [] (.bool (labelF s)) []:=by
 refine wk (rv:=[.tmp 2]) ann168 29 Tryz.func168 ?_
 have hl:=size_bytes s
 have h0:labelF s=((bytesOf s).all (fun b=>ofF b.toNat != 0)&&(decide ((s.size:Int)≥1)&&decide ((s.size:Int)≤48))):=by
  rw[labelF,notEmpty_iff,le_cast,Bool.and_comm];rfl
 rw[h0]
 rw[bytesOf] at hl ⊢
 generalize hbs:s.data.toList=bs at hl ⊢
 generalize h1:(bs.all (fun b=>ofF b.toNat != 0)&&(decide ((s.size:Int)≥1)&&decide ((s.size:Int)≤48)))=res
 simp only[go_sem]
 refine aLoop_list (α:=UInt8) (β:=List UInt8) (fun rest pre=>⟨[(3,ii pre.length),(0,pp (.str s))],[],[]⟩)
  (fun rest pre=>bs=pre++rest∧(rest.all (fun b=>ofF b.toNat != 0)&&(decide ((s.size:Int)≥1)&&decide ((s.size:Int)≤48)))=res) ?_ ?_ bs [] _ ?_ ⟨rfl,h1⟩
 ·rintro pre ⟨h4,h5⟩ K
  rw[List.append_nil] at h4
  subst h4
  rw[List.all_nil,Bool.true_and] at h5
  simp only[go_sem,hl,lt_false (Int.le_refl _)]
  rw[hl] at h5
  refine guardK_intro (fun hb=>?_) (fun hb=>?_)
  ·rw[hb,Bool.true_and] at h5
   simp only[go_sem,hl]
   rw[h5]
  ·rw[hb] at h5
   simp only[go_sem,hl]
   rw[←h5];rfl
 ·rintro x rest pre ⟨h4,h5⟩ K hK
  have hx:bs[pre.length]? = some x:=by simp[h4]
  have hlt:(pre.length:Int)<bs.length:=by rw[h4];simp;omega
  have hll:bs.length=pre.length+(rest.length+1):=by rw[h4];simp
  simp only[go_sem,hl,hbs,decide_eq_true hlt,Int.toNat_natCast,Int.natCast_nonneg,hx]
  refine aCall_intro (rInner_spec x.toNat) ?_
  have w4:IntKind.i64.wrap ((pre.length:Int)+1)=((pre++[x]).length:Int):=by rw[wrap_id (by omega) (by omega)];simp
  simp only[go_sem]
  have good:(ofF x.toNat != 0)=true→hK=hK:=fun _=>rfl
  have h46:((x.toNat:Int) != 46)=(ofF x.toNat != 5):=by
   rw[Bool.eq_iff_iff,bne_iff_ne,bne_iff_ne,ne_eq,ne_eq,ofF]
   (repeat' split)<;>omega
  refine guardK_intro (fun hb=>?_) (fun hb=>?_)
  ·simp only[go_sem,hbs,Int.toNat_natCast,Int.natCast_nonneg,hx,h46]
   refine condK_intro (fun hc=>?_) (fun hc=>?_)
   ·have hb':(ofF x.toNat != 0)=false:=by rw[hc,Bool.and_true] at hb;simpa using hb
    simp only[List.all_cons,hb',Bool.false_and] at h5
    subst h5
    simp only[go_sem]
   ·have hb':(ofF x.toNat != 0)=true:=by
     have:ofF x.toNat=5:=by simpa using hc
     rw[this];rfl
    simp only[List.all_cons,hb',Bool.true_and] at h5
    simp only[go_sem,w4]
    refine hK (pre++[x]) _ ?_ ⟨by simp[h4],h5⟩
    simp only[go_sem]
  ·have hb':(ofF x.toNat != 0)=true:=by
    have:(ofF x.toNat != 0&&ofF x.toNat != 5)=true:=by simpa using hb
    exact (Bool.and_eq_true _ _ ▸ this).1
   simp only[List.all_cons,hb',Bool.true_and] at h5
   simp only[go_sem,w4]
   refine hK (pre++[x]) _ ?_ ⟨by simp[h4],h5⟩
   simp only[go_sem]
 ·simp only[go_sem,List.length_nil,Int.natCast_zero]
theorem rAscending_spec (l:List ByteArray):Spec Tryz.prog 169 [pp (.slice (l.map .str))] [] (.bool (ascF l)) []:=by
 refine wf (rv:=[.tmp 2]) ann169 20 Tryz.func169 fun hfit=>?_
 have hlen:l.length≤9223372036854775807:=by
  simp only[argsFit,SV.pv?,SC.pv?,PV.fit,maxLen_eq,List.length_map] at hfit
  exact hfit.1.1
 clear hfit
 generalize h0:ascF l=res
 have hcase:l=[]∨∃a r,l=a::r:=by cases l<;>simp
 simp only[go_sem]
 rcases hcase with hl|⟨a,r,hl⟩
 ·refine ⟨1,?_⟩
  rw[aLoop_succ]
  rw[hl,ascF] at h0
  rw[hl,←h0]
  simp only[go_sem,List.length_nil,Int.natCast_zero]
 ·rw[hl,ascF] at h0
  refine aLoop_list (α:=ByteArray) (β:=List ByteArray×ByteArray) (fun rest b=>⟨[(3,ii ((b.1.length+1:Nat):Int)),(0,pp (.slice (l.map .str)))],[],[]⟩) (fun rest b=>l=b.1++b.2::rest∧ascF.ascFrom b.2 rest=res) ?_ ?_ r ([],a) _ ?_ ⟨hl,h0⟩
  ·rintro ⟨pre,last⟩ ⟨h4,h5⟩ K
   simp only at h4 h5
   have hll:l.length=pre.length+1:=by rw[h4];simp
   simp only[go_sem,List.length_map,hll,lt_false (Int.le_refl _)]
   simp only[ascF.ascFrom] at h5
   rw[h5]
  ·rintro x rest ⟨pre,last⟩ ⟨h4,h5⟩ K hK
   simp only at h4 h5
   have hll:l.length=pre.length+(rest.length+2):=by rw[h4];simp
   have hx:(l.map PV.str)[pre.length+1]? = some (.str x):=by rw[h4];simp
   have hy:(l.map PV.str)[pre.length]? = some (.str last):=by rw[h4];simp
   have hlt:(((pre.length+1:Nat)):Int)<(l.length:Int):=by rw[hll];omega
   have w1:IntKind.i64.wrap (((pre.length+1:Nat):Int) - 1)=(pre.length:Int):=by rw[wrap_id (by omega) (by omega)];omega
   have w4:IntKind.i64.wrap (((pre.length+1:Nat):Int)+1)=(((pre++[last]).length+1:Nat):Int):=by rw[wrap_id (by omega) (by omega)];simp
   simp only[ascF.ascFrom] at h5
   simp only[go_sem,List.length_map,decide_eq_true hlt,Int.toNat_natCast,Int.natCast_nonneg,hx,hy,w1]
   refine condK_intro (fun hb=>?_) (fun hb=>?_)
   ·have hb':ltS last x=false:=by simpa [ltS] using hb
    rw[hb',Bool.false_and] at h5
    subst h5
    simp only[go_sem]
   ·have hb':ltS last x=true:=by simpa [ltS] using hb
    rw[hb',Bool.true_and] at h5
    simp only[go_sem,w4]
    refine hK (pre++[last],x) _ ?_ ⟨by simp[h4],h5⟩
    simp only[go_sem]
  ·simp only[go_sem,List.length_nil];rfl
/-! Numbers -/
def digN:List UInt8→Int→Int
 | [],n=>n
 |c::r,n=>digN r (if 4503599627370497<10*n+((c.toNat:Int) - 48) then 4503599627370497 else 10*n+((c.toNat:Int) - 48))
def rnumF (l:List UInt8):Int×Int:=
 if l.isEmpty||(decide (1<l.length)&&l.head? == some 48) then (0,3) else
 if l.all isDig then (if digN l 0>4503599627370496 then (0,6) else (digN l 0,0)) else (0,3)
def valN:List UInt8→Nat→Nat
 | [],acc=>acc
 |c::r,acc=>valN r (acc*10+(c.toNat - 48))
theorem valN_ge:∀(l:List UInt8) (acc:Nat),acc≤valN l acc
 | [],acc=>Nat.le_refl _
 |c::r,acc=>by
  rw[valN]
  have:=valN_ge r (acc*10+(c.toNat - 48))
  omega
def capN (n:Nat):Int:=if 4503599627370497<(n:Int) then 4503599627370497 else n
theorem digN_val:∀(l:List UInt8) (acc:Nat),l.all isDig=true→digN l (capN acc)=capN (valN l acc)
 | [],acc,_=>rfl
 |c::r,acc,h=>by
  simp only[List.all_cons,Bool.and_eq_true] at h
  have hc:=(isDig_iff c).1 h.1
  rw[digN,valN,←digN_val r _ h.2]
  congr 1
  simp only[capN]
  (repeat' split)<;>omega
theorem parse_val:∀(l:List UInt8) (acc u:Nat),l.all isDig=true→Lib.parseUint10 acc l=.ok u→u=valN l acc
 | [],acc,u,_,h=>by
  rw[Lib.parseUint10] at h
  injection h with h
  exact h.symm
 |c::r,acc,u,hd,h=>by
  simp only[List.all_cons,Bool.and_eq_true] at hd
  rw[Lib.parseUint10,if_pos ((isDig_iff c).1 hd.1)] at h
  split at h
  ·cases h
  ·split at h
   ·cases h
   ·exact parse_val r _ u hd.2 h
theorem parse_range:∀(l:List UInt8) (acc:Nat),l.all isDig=true→Lib.parseUint10 acc l=.range→18446744073709551616≤valN l acc
 | [],acc,_,h=>by
  rw[Lib.parseUint10] at h
  cases h
 |c::r,acc,hd,h=>by
  simp only[List.all_cons,Bool.and_eq_true] at hd
  rw[Lib.parseUint10,if_pos ((isDig_iff c).1 hd.1)] at h
  have:=valN_ge r (acc*10+(c.toNat - 48))
  rw[valN]
  split at h
  ·omega
  ·split at h
   ·omega
   ·exact parse_range r _ hd.2 h
theorem capN_if (u:Nat):(if capN u>4503599627370496 then ((0,6):Int×Int) else (capN u,0))=if (u:Int)>4503599627370496 then (0,6) else ((u:Int),0):=by
 by_cases h:(u:Int)>4503599627370496
 ·rw[if_pos h,if_pos]
  rw[capN];split<;>omega
 ·have:capN u=u:=by rw[capN,if_neg (by omega)]
  rw[this]
theorem rnumF_eq (l:List UInt8):rnumF l=numF l:=by
 rw[rnumF,numF]
 split
 ·rfl
 ·rename_i h0
  split
  ·rename_i hd
   have hne:l≠[]:=by
    rintro rfl
    simp at h0
   have hv:=digN_val l 0 hd
   have h00:capN 0=0:=rfl
   rw[h00] at hv
   rw[hv]
   cases l with
   |nil=>exact absurd rfl hne
   |cons c r=>
    have hc:48≤c.toNat∧c.toNat≤57:=by
     have hd':=hd
     simp only[List.all_cons,Bool.and_eq_true] at hd'
     exact (isDig_iff c).1 hd'.1
    rw[capN_if]
    simp only[Lib.atoiAll,Lib.parseMag]
    rw[if_neg (show ¬(c.toNat=43∨c.toNat=45) by omega),if_neg (show ¬(c::r=[]) by simp)]
    cases hp:Lib.parseUint10 0 (c::r) with
    |range=>
     have:=parse_range _ 0 hd hp
     simp only
     rw[if_pos (by omega)]
    |ok u=>
     have hu:=parse_val _ 0 u hd hp
     rw[←hu]
     have hneg:(c.toNat=45)=False:=by simp;omega
     simp only[hneg,not_false_eq_true,true_and,false_and,if_false]
     by_cases h1:9223372036854775808≤u
     ·simp only[if_pos h1]
      rw[if_pos (by omega)]
     ·simp only[if_neg h1]
    |_=>
     have hs':=parse_dig (c::r) 0 hd
     rw[hp] at hs'
     cases hs'
  ·rfl
theorem rNumber_spec (s:ByteArray) (hs:s.size≤100000000):Spec Tryz.prog 214 [pp (.str s)] [] (.tuple [.int .i64 (numF (bytesOf s)).1,.int .i64 (numF (bytesOf s)).2]) []:=by
 refine wk (rv:=[.tmp 2,.tmp 3]) ann214 42 Tryz.func214 ?_
 have hl:=size_bytes s
 rw[←rnumF_eq]
 rw[bytesOf] at hl ⊢
 generalize hbs:s.data.toList=bs at hl ⊢
 generalize h0:rnumF bs=res
 simp only[go_sem,hl]
 cases bs with
 |nil=>
  simp only[go_sem,Int.natCast_zero,List.length_nil]
  rw[←h0];rfl
 |cons c r=>
  have hc:((c.toNat:Int)==48)=(c==48):=by
   rw[Bool.eq_iff_iff,beq_iff_eq,beq_iff_eq,←UInt8.toNat_inj]
   constructor
   ·intro h;have:c.toNat=48:=by omega
    rw[this];rfl
   ·intro h;rw[h];rfl
  have hz1:decide (1<(c::r).length)=decide (((r.length+1:Nat):Int)>1):=by
   rw[Bool.eq_iff_iff,decide_eq_true_iff,decide_eq_true_iff,List.length_cons];omega
  have hz0:(((r.length+1:Nat):Int)==0)=false:=by rw[beq_eq_false_iff_ne];omega
  simp only[go_sem,hz0,hl]
  refine guardK_intro (fun hb=>?_) (fun hb=>?_)
  case' cons.refine_1=>
   simp only[go_sem,hbs,Int.reduceToNat,Int.reduceLE,List.getElem?_cons_zero]
   refine condK_intro (fun hd=>?_) (fun hd=>?_)
  case' cons.refine_1.refine_1=>
   simp only[go_sem]
   rw[hc] at hd
   have hd':=eq_of_beq hd
   rw[←h0,rnumF,hz1,hb,hd'];simp
  all_goals
   have hz:(decide (1<(c::r).length)&&(c::r).head? == some 48)=false:=by
    rw[hz1]
    first
     | (rw[hc] at hd;simp[hd])
     | (rw[hb];simp)
   have h1:(if (c::r).all isDig then (if digN (c::r) 0>4503599627370496 then (0,6) else (digN (c::r) 0,0)) else (0,3):Int×Int)=res:=by
    rw[←h0,rnumF,hz];simp
   clear h0 hz hz1 hz0
   generalize c::r=bs at *
   simp only[go_sem]
   refine aLoop_list (α:=UInt8) (β:=List UInt8×Int) (fun rest b=>⟨[(5,ii b.1.length),(0,pp (.str s)),(4,ii b.2)],[],[]⟩)
    (fun rest b=>bs=b.1++rest∧0≤b.2∧b.2≤4503599627370497∧b.1.all isDig=true∧digN bs 0=digN rest b.2) ?_ ?_ bs ([],0) _ ?_ ⟨rfl,by decide,by decide,rfl,rfl⟩
   ·rintro ⟨pre,n⟩ ⟨h4,h5,h6,h7,h8⟩ K
    simp only[List.append_nil] at h4
    subst h4
    simp only[digN] at h8 h7
    rw[h7,if_pos rfl,h8] at h1
    simp only[go_sem,hl,lt_false (Int.le_refl _)]
    refine condK_intro (fun hd=>?_) (fun hd=>?_)
    ·rw[if_pos (of_decide_eq_true hd)] at h1
     subst h1
     simp only[go_sem]
    ·rw[if_neg (of_decide_eq_false hd)] at h1
     subst h1
     simp only[go_sem]
   ·rintro x rest ⟨pre,n⟩ ⟨h4,h5,h6,h7,h8⟩ K hK
    simp only at h4 h5 h6 h7 h8
    have hx:bs[pre.length]? = some x:=by simp[h4]
    have hlt:(pre.length:Int)<bs.length:=by rw[h4];simp;omega
    have hll:bs.length=pre.length+(rest.length+1):=by rw[h4];simp
    simp only[go_sem,hl,hbs,decide_eq_true hlt,Int.toNat_natCast,Int.natCast_nonneg,hx]
    refine aCall_intro (rDigit_spec x.toNat) ?_
    simp only[go_sem]
    refine condK_intro (fun hb=>?_) (fun hb=>?_)
    ·have hb':isDig x=false:=by rw[isDig];simpa only[Bool.not_eq_true'] using hb
     have:bs.all isDig=false:=by rw[h4];simp[hb']
     rw[this,if_neg (by simp)] at h1
     subst h1
     simp only[go_sem]
    ·have hb':isDig x=true:=by rw[isDig];simpa only[Bool.not_eq_false'] using hb
     have hx':=(isDig_iff x).1 hb'
     have w1:IntKind.i64.wrap (10*n)=10*n:=wrap_id (by omega) (by omega)
     have w2:IntKind.u8.wrap ((x.toNat:Int) - 48)=(x.toNat:Int) - 48:=by
      simp[IntKind.wrap,IntKind.bits,IntKind.signed];omega
     have w3:IntKind.i64.wrap ((x.toNat:Int) - 48)=(x.toNat:Int) - 48:=wrap_id (by omega) (by omega)
     have w5:IntKind.i64.wrap (10*n+((x.toNat:Int) - 48))=10*n+((x.toNat:Int) - 48):=wrap_id (by omega) (by omega)
     have w4:IntKind.i64.wrap ((pre.length:Int)+1)=((pre++[x]).length:Int):=by rw[wrap_id (by omega) (by omega)];simp
     simp only[go_sem,hbs,Int.toNat_natCast,Int.natCast_nonneg,hx,w1,w2,w3,w4,w5]
     have hm:(if 10*n+((x.toNat:Int) - 48)<4503599627370497 then 10*n+((x.toNat:Int) - 48) else 4503599627370497)=(if 4503599627370497<10*n+((x.toNat:Int) - 48) then 4503599627370497 else 10*n+((x.toNat:Int) - 48)):=by
      (repeat' split)<;>omega
     rw[hm]
     refine hK (pre++[x],if 4503599627370497<10*n+((x.toNat:Int) - 48) then 4503599627370497 else 10*n+((x.toNat:Int) - 48)) _ ?_ ⟨by simp[h4],?_,?_,by simp[h7,hb'],?_⟩
     ·simp only[go_sem]
     ·simp only;split<;>omega
     ·simp only;split<;>omega
     ·rw[h8,digN]
   ·simp only[go_sem,List.length_nil,Int.natCast_zero]
theorem idx_hit:∀(pre rest:List UInt8),(pre.all fun b=>b != 46)=true→Lib.indexByte (pre++46::rest) 46=pre.length
 | [],rest,_=>by simp[Lib.indexByte]
 |b::pre,rest,h=>by
  simp only[List.all_cons,Bool.and_eq_true,bne_iff_ne] at h
  have:=idx_hit pre rest h.2
  simp only[List.cons_append,Lib.indexByte,this,List.length_cons]
  rw[if_neg (by simpa using h.1),if_neg (by simp)]
  omega
theorem idx_miss:∀(l:List UInt8),(l.all fun b=>b != 46)=true→Lib.indexByte l 46=-1
 | [],_=>rfl
 |b::l,h=>by
  simp only[List.all_cons,Bool.and_eq_true,bne_iff_ne] at h
  have:=idx_miss l h.2
  simp only[Lib.indexByte,this]
  rw[if_neg (by simpa using h.1)]
  rfl
theorem u8_eq (x:UInt8):((x.toNat:Int)==46)=(x==46):=by
 rw[Bool.eq_iff_iff,beq_iff_eq,beq_iff_eq,←UInt8.toNat_inj]
 constructor
 ·intro h;have:x.toNat=46:=by omega
  rw[this];rfl
 ·intro h;rw[h];rfl
theorem ConstName_spec (s:ByteArray) (hs:s.size≤100000000):Spec Tryz.prog 181 [pp (.str s)] [] (.bool (constF s)) []:=by
 refine wk (rv:=[.tmp 2]) ann181 35 Tryz.func181 ?_
 have hl:=size_bytes s
 generalize h0:constF s=res
 rw[constF,bytesOf] at h0
 rw[bytesOf] at hl
 simp only[go_sem]
 refine condK_intro (fun hd=>?_) (fun hd=>?_)
 ·simp only[go_sem]
  have:¬s.size≤48:=by have:=of_decide_eq_true hd;omega
  rw[←h0,decide_eq_false this];simp
 ·have h48:s.size≤48:=by have:=of_decide_eq_false hd;omega
  rw[decide_eq_true h48,Bool.true_and] at h0
  generalize hbs:s.data.toList=bs at hl h0
  simp only[go_sem]
  refine aLoop_list (α:=UInt8) (β:=List UInt8) (fun rest pre=>⟨[(3,ii pre.length),(0,pp (.str s))],[],[]⟩)
   (fun rest pre=>bs=pre++rest∧(pre.all fun b=>b != 46)=true) ?_ ?_ bs [] _ ?_ ⟨rfl,rfl⟩
  ·rintro pre ⟨h4,h5⟩ K
   rw[List.append_nil] at h4
   subst h4
   simp only[go_sem,hl,lt_false (Int.le_refl _)]
   rw[idx_miss _ h5,if_neg (by decide)] at h0
   rw[h0]
  ·rintro x rest pre ⟨h4,h5⟩ K hK
   have hx:bs[pre.length]? = some x:=by simp[h4]
   have hlt:(pre.length:Int)<bs.length:=by rw[h4];simp;omega
   have hll:bs.length=pre.length+(rest.length+1):=by rw[h4];simp
   have w4:IntKind.i64.wrap ((pre.length:Int)+1)=((pre++[x]).length:Int):=by rw[wrap_id (by omega) (by omega)];simp
   simp only[go_sem,hl,hbs,decide_eq_true hlt,Int.toNat_natCast,Int.natCast_nonneg,hx]
   refine condK_intro (fun hb=>?_) (fun hb=>?_)
   ·rw[u8_eq] at hb
    have hb':=eq_of_beq hb
    subst hb'
    have hi:=idx_hit pre rest h5
    rw[←h4] at hi
    rw[hi,if_pos (by omega),Int.toNat_natCast] at h0
    have hN:=rNumber_spec (s.extract (pre.length+1) s.size) (extract_le _ _ _ hs)
    have hU:=rIsUpper_spec (s.extract 0 pre.length) (extract_le _ _ _ hs)
    have w5:IntKind.i64.wrap ((pre.length:Int)+1)=((pre.length+1:Nat):Int):=by rw[wrap_id (by omega) (by omega)];simp
    have t1:((pre.length+1:Nat):Int)≤(bs.length:Int):=by omega
    have t2:(pre.length:Int)≤(bs.length:Int):=by omega
    rw[hl] at hN h0
    simp only[go_sem,hl,w5,t1,t2,and_self,Int.toNat_natCast,Int.natCast_nonneg,Int.le_refl]
    refine aCall_intro hN ?_
    simp only[go_sem,hl,w5,t1,t2,and_self,Int.toNat_natCast,Int.natCast_nonneg,Int.le_refl]
    refine aCall_intro hU ?_
    simp only[go_sem]
    refine guardK_intro (fun hc=>?_) (fun hc=>?_)
    ·rw[hc,Bool.true_and] at h0
     simp only[go_sem]
     rw[h0]
    ·rw[hc] at h0
     simp only[go_sem]
     rw[←h0];rfl
   ·rw[u8_eq] at hb
    simp only[go_sem,w4]
    refine hK (pre++[x]) _ ?_ ⟨by simp[h4],by simp[h5];simpa using hb⟩
    simp only[go_sem]
  ·simp only[go_sem,List.length_nil,Int.natCast_zero]
/-! Kinds -/
mutual
def rk:KindT→Int→Int→Int
 | .mk l,left,depth=>if left<1∨depth<1∨(l.length≠0∧l.length≠2) then -1 else rkL l (left - 1) depth
def rkL:List KindT→Int→Int→Int
 | [],left,_=>left
 |x::r,left,depth=>if left≥0 then rkL r (rk x left (depth - 1)) depth else left
end
mutual
theorem rk_le:∀(k:KindT) (left depth:Int),-1≤left→-1≤rk k left depth∧rk k left depth≤left
 | .mk l,left,depth,h=>by
  rw[rk]
  split
  ·omega
  ·have:=rkL_le l (left - 1) depth (by omega);omega
theorem rkL_le:∀(l:List KindT) (left depth:Int),-1≤left→-1≤rkL l left depth∧rkL l left depth≤left
 | [],left,depth,h=>by rw[rkL];omega
 |x::r,left,depth,h=>by
  rw[rkL]
  split
  ·have:=rk_le x left (depth - 1) h
   have:=rkL_le r (rk x left (depth - 1)) depth (by omega);omega
  ·omega
end
theorem rcount_spec (k:KindT):∀left depth:Int,-1≤left→left≤100000000→-100000000≤depth→depth≤100000000→Spec Tryz.prog 170 [pp (encK k),ii left,ii depth] [] (.int .i64 (rk k left depth)) []:=by
 revert k
 refine KindT.ind1 fun l ih=>?_
 intro left depth h1 h2 h3 h4
 refine wf (rv:=[.tmp 6]) ann170 49 Tryz.func170 fun hfit=>?_
 have hlen:l.length≤9223372036854775807:=by
  simp only[argsFit,SV.pv?,SC.pv?,encK_mk,PV.fit,fitL,List.length_map,maxLen_eq] at hfit
  exact hfit.1.1.1
 clear hfit
 have hout:∀h:left<1∨depth<1∨(l.length≠0∧l.length≠2),-1=rk (.mk l) left depth:=fun h=>by rw[rk,if_pos h]
 have hin:∀h:¬(left<1∨depth<1∨(l.length≠0∧l.length≠2)),rkL l (left - 1) depth=rk (.mk l) left depth:=fun h=>by rw[rk,if_neg h]
 generalize rk (.mk l) left depth=res at hout hin
 simp only[go_sem,encK_mk,List.length_map]
 repeat' ((first|refine condK_intro (fun _=>?_) (fun _=>?_)|refine guardK_intro (fun _=>?_) (fun _=>?_))<;>simp only[go_sem,List.length_map])
 any_goals (first | (rw[←hout (by simp_all<;>omega)];done)|skip)
 all_goals
  have hc:=hin (by rintro (h|h|h)<;>simp_all<;>omega)
  have hleft:1≤left:=by simp_all
  have hdep:1≤depth:=by simp_all
  clear hout hin
  have w0:IntKind.i64.wrap (left - 1)=left - 1:=wrap_id (by omega) (by omega)
  have w2:IntKind.i64.wrap (depth - 1)=depth - 1:=wrap_id (by omega) (by omega)
  simp only[go_sem,w0]
  refine aLoop_list (α:=KindT) (β:=List KindT×Int) (fun rest b=>⟨[(7,ii b.1.length),(2,ii depth),(1,ii b.2),(3,pp (.ep (.agg [.slice (l.map encK)]) 0))],[],[]⟩)
   (fun rest b=>l=b.1++rest∧-1≤b.2∧b.2≤left∧rkL rest b.2 depth=res) ?_ ?_ l ([],left - 1) _ ?_ ⟨rfl,by simp only;omega,by simp only;omega,hc⟩
  ·rintro ⟨pre,n⟩ ⟨h4,h5,h7,h6⟩ K
   simp only[List.append_nil] at h4
   simp only[go_sem,h4,List.length_map,lt_false (Int.le_refl _)]
   simp only[rkL] at h6
   rw[←h6]
  ·rintro x rest ⟨pre,n⟩ ⟨h4,h5,h7,h6⟩ K hK
   simp only at h4 h5 h6 h7
   have hx:(l.map encK)[pre.length]? = some (encK x):=by simp[h4]
   have hlt:(pre.length:Int)<l.length:=by rw[h4];simp;omega
   simp only[go_sem,List.length_map,decide_eq_true hlt,Int.toNat_natCast,Int.natCast_nonneg]
   refine condK_intro (fun hd=>?_) (fun hd=>?_)
   ·have hd':n≥0:=of_decide_eq_true hd
    rw[rkL,if_pos hd'] at h6
    have hr:=rk_le x n (depth - 1) h5
    have w4:IntKind.i64.wrap ((pre.length:Int)+1)=((pre++[x]).length:Int):=by rw[wrap_id (by omega) (by omega)];simp
    simp only[go_sem,List.length_map,Int.toNat_natCast,Int.natCast_nonneg,hx,encK_sz,w2]
    refine aCall_intro (ih x (by simp[h4]) n (depth - 1) (by omega) (by omega) (by omega) (by omega)) ?_
    simp only[go_sem,w4]
    refine hK (pre++[x],rk x n (depth - 1)) _ ?_ ⟨by simp[h4],by simp only;omega,by simp only;omega,h6⟩
    simp only[go_sem]
   ·have hd':¬n≥0:=of_decide_eq_false hd
    rw[rkL,if_neg hd'] at h6
    simp only[go_sem]
    rw[h6]
  ·simp only[go_sem,List.length_nil,Int.natCast_zero]
end Go.Abs.Kon