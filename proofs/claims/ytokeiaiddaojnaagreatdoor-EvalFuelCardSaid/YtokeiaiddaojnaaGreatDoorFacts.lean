/- Closed facts on the types and functions of this program, printed by a program and checked by the kernel. -/
import Derived.Test.YtokeiaiddaojnaaGreatDoorAbsD
import Derived.Test.YtokeiaiddaojnaaGreatDoorProg
set_option linter.unusedSimpArgs false
set_option linter.unusedVariables false
namespace Go.Abs.Kon
open Go Go.Proofs Go.Abs
theorem mixed:Tryz.prog.follows .mixedOrders=true:=by kernel_rfl
@[go_sem] theorem sz3:szOf Tryz.prog 3=some Sz.one:=by kernel_rfl
@[go_sem] theorem zo3:zeroOf Tryz.prog 3=some (Sz.one,SV.one (SC.pv (PV.int IntKind.i64 0))):=by kernel_rfl
@[go_sem] theorem eq3:eqTOf Tryz.prog 3=EqT.other:=by kernel_rfl
@[go_sem] theorem cv3:cvTOf Tryz.prog 3=CvT.int IntKind.i64:=by kernel_rfl
@[go_sem] theorem sz4:szOf Tryz.prog 4=some Sz.one:=by kernel_rfl
@[go_sem] theorem zo4:zeroOf Tryz.prog 4=some (Sz.one,SV.one (SC.pv (PV.bool Bool.false))):=by kernel_rfl
@[go_sem] theorem sz5:szOf Tryz.prog 5=some Sz.one:=by kernel_rfl
@[go_sem] theorem eq5:eqTOf Tryz.prog 5=EqT.other:=by kernel_rfl
@[go_sem] theorem cv5:cvTOf Tryz.prog 5=CvT.int IntKind.u8:=by kernel_rfl
@[go_sem] theorem sz9:szOf Tryz.prog 9=some Sz.one:=by kernel_rfl
@[go_sem] theorem eq9:eqTOf Tryz.prog 9=EqT.str:=by kernel_rfl
@[go_sem] theorem cv9:cvTOf Tryz.prog 9=CvT.string:=by kernel_rfl
@[go_sem] theorem sz22:szOf Tryz.prog 22=some Sz.one:=by kernel_rfl
@[go_sem] theorem el22:elemOf Tryz.prog 22=some 24:=by kernel_rfl
@[go_sem] theorem es22:elemSz Tryz.prog 22=some (Sz.agg 1,24):=by kernel_rfl
@[go_sem] theorem eq22:eqTOf Tryz.prog 22=EqT.other:=by kernel_rfl
@[go_sem] theorem sz24:szOf Tryz.prog 24=some (Sz.agg 1):=by kernel_rfl
@[go_sem] theorem zo24:zeroOf Tryz.prog 24=some (Sz.agg 1,SV.agg [SC.nilS]):=by kernel_rfl
@[go_sem] theorem fo24_0:fieldOff Tryz.prog 24 0=some 0:=by kernel_rfl
@[go_sem] theorem sz25:szOf Tryz.prog 25=some Sz.one:=by kernel_rfl
@[go_sem] theorem el25:elemOf Tryz.prog 25=some 9:=by kernel_rfl
@[go_sem] theorem es25:elemSz Tryz.prog 25=some (Sz.one,16):=by kernel_rfl
@[go_sem] theorem eq25:eqTOf Tryz.prog 25=EqT.other:=by kernel_rfl
@[go_sem] theorem sz26:szOf Tryz.prog 26=some Sz.one:=by kernel_rfl
@[go_sem] theorem el26:elemOf Tryz.prog 26=some 28:=by kernel_rfl
@[go_sem] theorem es26:elemSz Tryz.prog 26=some (Sz.agg 6,104):=by kernel_rfl
@[go_sem] theorem eq26:eqTOf Tryz.prog 26=EqT.other:=by kernel_rfl
@[go_sem] theorem sz28:szOf Tryz.prog 28=some (Sz.agg 6):=by kernel_rfl
@[go_sem] theorem zo28:zeroOf Tryz.prog 28=some (Sz.agg 6,SV.agg [SC.pv (PV.int IntKind.i64 0),SC.pv (PV.int IntKind.i64 0),SC.pv (PV.str ByteArray.empty),SC.nilS,SC.nilS,SC.nilS]):=by kernel_rfl
@[go_sem] theorem pl28:placesOf Tryz.prog 28=some [(0,Sz.one),(1,Sz.one),(2,Sz.one),(3,Sz.agg 1),(4,Sz.one),(5,Sz.one)]:=by kernel_rfl
@[go_sem] theorem fo28_0:fieldOff Tryz.prog 28 0=some 0:=by kernel_rfl
@[go_sem] theorem fo28_1:fieldOff Tryz.prog 28 1=some 1:=by kernel_rfl
@[go_sem] theorem fo28_2:fieldOff Tryz.prog 28 2=some 2:=by kernel_rfl
@[go_sem] theorem fo28_3:fieldOff Tryz.prog 28 3=some 3:=by kernel_rfl
@[go_sem] theorem fo28_4:fieldOff Tryz.prog 28 4=some 4:=by kernel_rfl
@[go_sem] theorem fo28_5:fieldOff Tryz.prog 28 5=some 5:=by kernel_rfl
@[go_sem] theorem sz29:szOf Tryz.prog 29=some Sz.one:=by kernel_rfl
@[go_sem] theorem el29:elemOf Tryz.prog 29=some 31:=by kernel_rfl
@[go_sem] theorem es29:elemSz Tryz.prog 29=some (Sz.agg 18,312):=by kernel_rfl
@[go_sem] theorem eq29:eqTOf Tryz.prog 29=EqT.other:=by kernel_rfl
@[go_sem] theorem sz31:szOf Tryz.prog 31=some (Sz.agg 18):=by kernel_rfl
@[go_sem] theorem zo31:zeroOf Tryz.prog 31=some (Sz.agg 18,SV.agg [SC.pv (PV.int IntKind.i64 0),SC.pv (PV.int IntKind.i64 0),SC.pv (PV.str ByteArray.empty),SC.pv (PV.int IntKind.i64 0),SC.pv (PV.int IntKind.i64 0),SC.pv (PV.str ByteArray.empty),SC.nilS,SC.nilS,SC.nilS,SC.pv (PV.int IntKind.i64 0),SC.pv (PV.int IntKind.i64 0),SC.pv (PV.str ByteArray.empty),SC.nilS,SC.nilS,SC.nilS,SC.nilS,SC.nilS,SC.nilS]):=by kernel_rfl
@[go_sem] theorem pl31:placesOf Tryz.prog 31=some [(0,Sz.one),(1,Sz.one),(2,Sz.one),(3,Sz.agg 6),(9,Sz.agg 6),(15,Sz.agg 1),(16,Sz.one),(17,Sz.one)]:=by kernel_rfl
@[go_sem] theorem fo31_0:fieldOff Tryz.prog 31 0=some 0:=by kernel_rfl
@[go_sem] theorem fo31_1:fieldOff Tryz.prog 31 1=some 1:=by kernel_rfl
@[go_sem] theorem fo31_2:fieldOff Tryz.prog 31 2=some 2:=by kernel_rfl
@[go_sem] theorem fo31_3:fieldOff Tryz.prog 31 3=some 3:=by kernel_rfl
@[go_sem] theorem fo31_4:fieldOff Tryz.prog 31 4=some 9:=by kernel_rfl
@[go_sem] theorem fo31_5:fieldOff Tryz.prog 31 5=some 15:=by kernel_rfl
@[go_sem] theorem fo31_6:fieldOff Tryz.prog 31 6=some 16:=by kernel_rfl
@[go_sem] theorem fo31_7:fieldOff Tryz.prog 31 7=some 17:=by kernel_rfl
@[go_sem] theorem sz34:szOf Tryz.prog 34=some Sz.one:=by kernel_rfl
@[go_sem] theorem el34:elemOf Tryz.prog 34=some 36:=by kernel_rfl
@[go_sem] theorem es34:elemSz Tryz.prog 34=some (Sz.agg 5,80):=by kernel_rfl
@[go_sem] theorem eq34:eqTOf Tryz.prog 34=EqT.other:=by kernel_rfl
@[go_sem] theorem sz36:szOf Tryz.prog 36=some (Sz.agg 5):=by kernel_rfl
@[go_sem] theorem zo36:zeroOf Tryz.prog 36=some (Sz.agg 5,SV.agg [SC.pv (PV.int IntKind.i64 0),SC.pv (PV.int IntKind.i64 0),SC.pv (PV.str ByteArray.empty),SC.nilS,SC.nilS]):=by kernel_rfl
@[go_sem] theorem pl36:placesOf Tryz.prog 36=some [(0,Sz.one),(1,Sz.one),(2,Sz.one),(3,Sz.one),(4,Sz.one)]:=by kernel_rfl
@[go_sem] theorem fo36_0:fieldOff Tryz.prog 36 0=some 0:=by kernel_rfl
@[go_sem] theorem fo36_1:fieldOff Tryz.prog 36 1=some 1:=by kernel_rfl
@[go_sem] theorem fo36_2:fieldOff Tryz.prog 36 2=some 2:=by kernel_rfl
@[go_sem] theorem fo36_3:fieldOff Tryz.prog 36 3=some 3:=by kernel_rfl
@[go_sem] theorem fo36_4:fieldOff Tryz.prog 36 4=some 4:=by kernel_rfl
@[go_sem] theorem sz38:szOf Tryz.prog 38=some (Sz.agg 9):=by kernel_rfl
@[go_sem] theorem zo38:zeroOf Tryz.prog 38=some (Sz.agg 9,SV.agg [SC.pv (PV.int IntKind.i64 0),SC.pv (PV.int IntKind.i64 0),SC.pv (PV.int IntKind.i64 0),SC.pv (PV.int IntKind.i64 0),SC.pv (PV.int IntKind.i64 0),SC.pv (PV.str ByteArray.empty),SC.nilS,SC.nilS,SC.nilS]):=by kernel_rfl
@[go_sem] theorem pl38:placesOf Tryz.prog 38=some [(0,Sz.one),(1,Sz.one),(2,Sz.one),(3,Sz.agg 5),(8,Sz.one)]:=by kernel_rfl
@[go_sem] theorem fo38_0:fieldOff Tryz.prog 38 0=some 0:=by kernel_rfl
@[go_sem] theorem fo38_1:fieldOff Tryz.prog 38 1=some 1:=by kernel_rfl
@[go_sem] theorem fo38_2:fieldOff Tryz.prog 38 2=some 2:=by kernel_rfl
@[go_sem] theorem fo38_3:fieldOff Tryz.prog 38 3=some 3:=by kernel_rfl
@[go_sem] theorem fo38_4:fieldOff Tryz.prog 38 4=some 8:=by kernel_rfl
@[go_sem] theorem sz54:szOf Tryz.prog 54=some Sz.one:=by kernel_rfl
@[go_sem] theorem sz69:szOf Tryz.prog 69=some Sz.one:=by kernel_rfl
@[go_sem] theorem zo69:zeroOf Tryz.prog 69=some (Sz.one,SV.one (SC.pv PV.nilp)):=by kernel_rfl
@[go_sem] theorem sz71:szOf Tryz.prog 71=some (Sz.agg 3):=by kernel_rfl
@[go_sem] theorem zo71:zeroOf Tryz.prog 71=some (Sz.agg 3,SV.agg [SC.pv (PV.int IntKind.i64 0),SC.pv (PV.int IntKind.i64 0),SC.nilS]):=by kernel_rfl
@[go_sem] theorem pl71:placesOf Tryz.prog 71=some [(0,Sz.one),(1,Sz.one),(2,Sz.one)]:=by kernel_rfl
@[go_sem] theorem fo71_0:fieldOff Tryz.prog 71 0=some 0:=by kernel_rfl
@[go_sem] theorem fo71_1:fieldOff Tryz.prog 71 1=some 1:=by kernel_rfl
@[go_sem] theorem fo71_2:fieldOff Tryz.prog 71 2=some 2:=by kernel_rfl
@[go_sem] theorem sz73:szOf Tryz.prog 73=some (Sz.agg 2):=by kernel_rfl
@[go_sem] theorem zo73:zeroOf Tryz.prog 73=some (Sz.agg 2,SV.agg [SC.pv (PV.int IntKind.i64 0),SC.pv (PV.int IntKind.i64 0)]):=by kernel_rfl
@[go_sem] theorem pl73:placesOf Tryz.prog 73=some [(0,Sz.one),(1,Sz.one)]:=by kernel_rfl
@[go_sem] theorem eq73:eqTOf Tryz.prog 73=EqT.other:=by kernel_rfl
@[go_sem] theorem fo73_0:fieldOff Tryz.prog 73 0=some 0:=by kernel_rfl
@[go_sem] theorem fo73_1:fieldOff Tryz.prog 73 1=some 1:=by kernel_rfl
@[go_sem] theorem sz76:szOf Tryz.prog 76=some Sz.one:=by kernel_rfl
@[go_sem] theorem sz80:szOf Tryz.prog 80=some (Sz.agg 5):=by kernel_rfl
@[go_sem] theorem zo80:zeroOf Tryz.prog 80=some (Sz.agg 5,SV.agg [SC.pv (PV.int IntKind.i64 0),SC.pv (PV.int IntKind.i64 0),SC.nilS,SC.pv (PV.int IntKind.i64 0),SC.pv (PV.int IntKind.i64 0)]):=by kernel_rfl
@[go_sem] theorem pl80:placesOf Tryz.prog 80=some [(0,Sz.one),(1,Sz.one),(2,Sz.one),(3,Sz.one),(4,Sz.one)]:=by kernel_rfl
@[go_sem] theorem fo80_0:fieldOff Tryz.prog 80 0=some 0:=by kernel_rfl
@[go_sem] theorem fo80_1:fieldOff Tryz.prog 80 1=some 1:=by kernel_rfl
@[go_sem] theorem fo80_2:fieldOff Tryz.prog 80 2=some 2:=by kernel_rfl
@[go_sem] theorem fo80_3:fieldOff Tryz.prog 80 3=some 3:=by kernel_rfl
@[go_sem] theorem fo80_4:fieldOff Tryz.prog 80 4=some 4:=by kernel_rfl
@[go_sem] theorem sz81:szOf Tryz.prog 81=some Sz.one:=by kernel_rfl
@[go_sem] theorem el81:elemOf Tryz.prog 81=some 83:=by kernel_rfl
@[go_sem] theorem es81:elemSz Tryz.prog 81=some (Sz.agg 25,424):=by kernel_rfl
@[go_sem] theorem eq81:eqTOf Tryz.prog 81=EqT.other:=by kernel_rfl
@[go_sem] theorem sz83:szOf Tryz.prog 83=some (Sz.agg 25):=by kernel_rfl
@[go_sem] theorem zo83:zeroOf Tryz.prog 83=some (Sz.agg 25,SV.agg [SC.pv (PV.int IntKind.i64 0),SC.pv (PV.int IntKind.i64 0),SC.pv (PV.str ByteArray.empty),SC.nilS,SC.nilS,SC.pv (PV.int IntKind.i64 0),SC.pv (PV.int IntKind.i64 0),SC.pv (PV.str ByteArray.empty),SC.pv (PV.int IntKind.i64 0),SC.pv (PV.int IntKind.i64 0),SC.pv (PV.str ByteArray.empty),SC.nilS,SC.nilS,SC.nilS,SC.pv (PV.int IntKind.i64 0),SC.pv (PV.int IntKind.i64 0),SC.pv (PV.str ByteArray.empty),SC.nilS,SC.nilS,SC.nilS,SC.nilS,SC.nilS,SC.nilS,SC.nilS,SC.pv (PV.bool Bool.false)]):=by kernel_rfl
@[go_sem] theorem pl83:placesOf Tryz.prog 83=some [(0,Sz.one),(1,Sz.one),(2,Sz.one),(3,Sz.one),(4,Sz.one),(5,Sz.agg 18),(23,Sz.one),(24,Sz.one)]:=by kernel_rfl
@[go_sem] theorem fo83_0:fieldOff Tryz.prog 83 0=some 0:=by kernel_rfl
@[go_sem] theorem fo83_1:fieldOff Tryz.prog 83 1=some 1:=by kernel_rfl
@[go_sem] theorem fo83_2:fieldOff Tryz.prog 83 2=some 2:=by kernel_rfl
@[go_sem] theorem fo83_3:fieldOff Tryz.prog 83 3=some 3:=by kernel_rfl
@[go_sem] theorem fo83_4:fieldOff Tryz.prog 83 4=some 4:=by kernel_rfl
@[go_sem] theorem fo83_5:fieldOff Tryz.prog 83 5=some 5:=by kernel_rfl
@[go_sem] theorem fo83_6:fieldOff Tryz.prog 83 6=some 23:=by kernel_rfl
@[go_sem] theorem fo83_7:fieldOff Tryz.prog 83 7=some 24:=by kernel_rfl
@[go_sem] theorem sz91:szOf Tryz.prog 91=some Sz.one:=by kernel_rfl
@[go_sem] theorem el91:elemOf Tryz.prog 91=some 76:=by kernel_rfl
@[go_sem] theorem es91:elemSz Tryz.prog 91=some (Sz.one,8):=by kernel_rfl
@[go_sem] theorem eq91:eqTOf Tryz.prog 91=EqT.other:=by kernel_rfl
@[go_sem] theorem sz92:szOf Tryz.prog 92=some Sz.one:=by kernel_rfl
@[go_sem] theorem sz94:szOf Tryz.prog 94=some (Sz.agg 24):=by kernel_rfl
@[go_sem] theorem zo94:zeroOf Tryz.prog 94=some (Sz.agg 24,SV.agg [SC.pv (PV.int IntKind.i64 0),SC.pv (PV.int IntKind.i64 0),SC.pv (PV.str ByteArray.empty),SC.nilS,SC.nilS,SC.pv (PV.int IntKind.i64 0),SC.pv (PV.int IntKind.i64 0),SC.pv (PV.str ByteArray.empty),SC.pv (PV.int IntKind.i64 0),SC.pv (PV.int IntKind.i64 0),SC.pv (PV.str ByteArray.empty),SC.nilS,SC.nilS,SC.nilS,SC.pv (PV.int IntKind.i64 0),SC.pv (PV.int IntKind.i64 0),SC.pv (PV.str ByteArray.empty),SC.nilS,SC.nilS,SC.nilS,SC.nilS,SC.nilS,SC.nilS,SC.pv PV.nilp]):=by kernel_rfl
@[go_sem] theorem pl94:placesOf Tryz.prog 94=some [(0,Sz.one),(1,Sz.one),(2,Sz.one),(3,Sz.one),(4,Sz.one),(5,Sz.agg 18),(23,Sz.one)]:=by kernel_rfl
@[go_sem] theorem fo94_0:fieldOff Tryz.prog 94 0=some 0:=by kernel_rfl
@[go_sem] theorem fo94_1:fieldOff Tryz.prog 94 1=some 1:=by kernel_rfl
@[go_sem] theorem fo94_2:fieldOff Tryz.prog 94 2=some 2:=by kernel_rfl
@[go_sem] theorem fo94_3:fieldOff Tryz.prog 94 3=some 3:=by kernel_rfl
@[go_sem] theorem fo94_4:fieldOff Tryz.prog 94 4=some 4:=by kernel_rfl
@[go_sem] theorem fo94_5:fieldOff Tryz.prog 94 5=some 5:=by kernel_rfl
@[go_sem] theorem fo94_6:fieldOff Tryz.prog 94 6=some 23:=by kernel_rfl
@[go_sem] theorem sz108:szOf Tryz.prog 108=some Sz.one:=by kernel_rfl
@[go_sem] theorem el108:elemOf Tryz.prog 108=some 3:=by kernel_rfl
@[go_sem] theorem es108:elemSz Tryz.prog 108=some (Sz.one,8):=by kernel_rfl
@[go_sem] theorem zo108:zeroOf Tryz.prog 108=some (Sz.one,SV.one SC.nilS):=by kernel_rfl
@[go_sem] theorem eq108:eqTOf Tryz.prog 108=EqT.other:=by kernel_rfl
@[go_sem] theorem sz116:szOf Tryz.prog 116=some (Sz.agg 2):=by kernel_rfl
@[go_sem] theorem zo116:zeroOf Tryz.prog 116=some (Sz.agg 2,SV.agg [SC.pv PV.nilp,SC.pv PV.nilp]):=by kernel_rfl
@[go_sem] theorem pl116:placesOf Tryz.prog 116=some [(0,Sz.one),(1,Sz.one)]:=by kernel_rfl
@[go_sem] theorem fo116_0:fieldOff Tryz.prog 116 0=some 0:=by kernel_rfl
@[go_sem] theorem fo116_1:fieldOff Tryz.prog 116 1=some 1:=by kernel_rfl
@[go_sem] theorem mi125:mapIOf Tryz.prog 125=true:=by kernel_rfl
@[go_sem] theorem sz142:szOf Tryz.prog 142=some Sz.one:=by kernel_rfl
@[go_sem] theorem sz143:szOf Tryz.prog 143=some Sz.one:=by kernel_rfl
@[go_sem] theorem sz145:szOf Tryz.prog 145=some (Sz.agg 2):=by kernel_rfl
@[go_sem] theorem zo145:zeroOf Tryz.prog 145=some (Sz.agg 2,SV.agg [SC.pv PV.nilfn,SC.pv PV.nilfn]):=by kernel_rfl
@[go_sem] theorem pl145:placesOf Tryz.prog 145=some [(0,Sz.one),(1,Sz.one)]:=by kernel_rfl
@[go_sem] theorem fo145_0:fieldOff Tryz.prog 145 0=some 0:=by kernel_rfl
@[go_sem] theorem fo145_1:fieldOff Tryz.prog 145 1=some 1:=by kernel_rfl
@[go_sem] theorem sz149:szOf Tryz.prog 149=some (Sz.agg 2):=by kernel_rfl
@[go_sem] theorem zo149:zeroOf Tryz.prog 149=some (Sz.agg 2,SV.agg [SC.pv (PV.int IntKind.i64 0),SC.pv (PV.int IntKind.i64 0)]):=by kernel_rfl
@[go_sem] theorem pl149:placesOf Tryz.prog 149=some [(0,Sz.one),(1,Sz.one)]:=by kernel_rfl
@[go_sem] theorem fo149_0:fieldOff Tryz.prog 149 0=some 0:=by kernel_rfl
@[go_sem] theorem fo149_1:fieldOff Tryz.prog 149 1=some 1:=by kernel_rfl
@[go_sem] theorem sz168:szOf Tryz.prog 168=some Sz.one:=by kernel_rfl
@[go_sem] theorem zo168:zeroOf Tryz.prog 168=some (Sz.one,SV.one SC.any):=by kernel_rfl
@[go_sem] theorem mp168:mapTOf Tryz.prog 168=true:=by kernel_rfl
@[go_sem] theorem mi168:mapIOf Tryz.prog 168=false:=by kernel_rfl
@[go_sem] theorem el183:elemOf Tryz.prog 183=some 5:=by kernel_rfl
@[go_sem] theorem es183:elemSz Tryz.prog 183=some (Sz.one,1):=by kernel_rfl
@[go_sem] theorem eq183:eqTOf Tryz.prog 183=EqT.other:=by kernel_rfl
@[go_sem] theorem cv183:cvTOf Tryz.prog 183=CvT.bytes:=by kernel_rfl
@[go_sem] theorem sz187:szOf Tryz.prog 187=some Sz.one:=by kernel_rfl
@[go_sem] theorem sz206:szOf Tryz.prog 206=some (Sz.agg 2):=by kernel_rfl
@[go_sem] theorem zo206:zeroOf Tryz.prog 206=some (Sz.agg 2,SV.agg [SC.pv PV.nilfn,SC.pv (PV.int IntKind.i64 0)]):=by kernel_rfl
@[go_sem] theorem pl206:placesOf Tryz.prog 206=some [(0,Sz.one),(1,Sz.one)]:=by kernel_rfl
@[go_sem] theorem fo206_0:fieldOff Tryz.prog 206 0=some 0:=by kernel_rfl
@[go_sem] theorem fo206_1:fieldOff Tryz.prog 206 1=some 1:=by kernel_rfl
@[go_sem] theorem cv211:cvTOf Tryz.prog 211=CvT.int IntKind.u64:=by kernel_rfl
@[go_sem] theorem eq244:eqTOf Tryz.prog 244=EqT.iface:=by kernel_rfl
@[go_sem] def lv4:List (Nat×List Nat):=[(21,[6]),(20,[7,13,14]),(19,[6]),(18,[7,3,125]),(17,[6]),(16,[7,3,122]),(15,[7,3,11,12]),(14,[6]),(13,[7,3,107]),(12,[6]),(11,[7,9,1,3,92]),(10,[6]),(9,[7,9,1,3,89]),(8,[6]),(7,[9,7,10,8,1,3,56]),(6,[9,7,10,8,1,3]),(5,[7,8,1,3,2]),(4,[6]),(3,[1,3,2,36]),(2,[6]),(1,[1,3,2,16]),(0,[1,3,2])]
def ann4:Ann:=⟨[3],[],lv4,[]⟩
@[go_sem] theorem ann4_s:ann4.imm=[3]∧ann4.frz=[]∧ann4.live=lv4∧ann4.head=[]:=⟨rfl,rfl,rfl,rfl⟩
@[go_sem] def lv5:List (Nat×List Nat):=[(9,[2]),(8,[5,3,6,1,4]),(7,[2]),(6,[4,3,1,20]),(5,[4,3,1]),(4,[2]),(3,[1,12]),(2,[2]),(1,[1,8]),(0,[1])]
def ann5:Ann:=⟨[1],[],lv5,[]⟩
@[go_sem] theorem ann5_s:ann5.imm=[1]∧ann5.frz=[]∧ann5.live=lv5∧ann5.head=[]:=⟨rfl,rfl,rfl,rfl⟩
@[go_sem] def lv7:List (Nat×List Nat):=[(7,[6]),(6,[10,8,9,7]),(5,[8,7,2,1,3]),(4,[6]),(3,[2,1,3,29]),(2,[6]),(1,[2,1,3,12]),(0,[2,1,3])]
def ann7:Ann:=⟨[3],[],lv7,[]⟩
@[go_sem] theorem ann7_s:ann7.imm=[3]∧ann7.frz=[]∧ann7.live=lv7∧ann7.head=[]:=⟨rfl,rfl,rfl,rfl⟩
@[go_sem] def lv8:List (Nat×List Nat):=[(5,[0]),(4,[4,5]),(3,[2,1,3]),(2,[2,1]),(1,[1]),(0,[])]
def ann8:Ann:=⟨[],[],lv8,[]⟩
@[go_sem] theorem ann8_s:ann8.imm=[]∧ann8.frz=[]∧ann8.live=lv8∧ann8.head=[]:=⟨rfl,rfl,rfl,rfl⟩
def ann9:Ann:=⟨[],[],[(2,[2]),(1,[3,0]),(0,[0])],[]⟩
@[go_sem] theorem ann9_s:ann9.imm=[]∧ann9.frz=[]∧ann9.live=[(2,[2]),(1,[3,0]),(0,[0])]∧ann9.head=[]:=⟨rfl,rfl,rfl,rfl⟩
@[go_sem] def lv10:List (Nat×List Nat):=[(11,[4,5]),(10,[4,9]),(9,[4,9,8,40]),(8,[4,9,8]),(7,[4,8,6,7]),(6,[4,6,7,2]),(5,[4,6,2]),(2,[4,5]),(4,[4,5]),(3,[4,2,1,15]),(1,[4,2,1,10]),(0,[4,2,1])]
def ann10:Ann:=⟨[2,25],[],lv10,[]⟩
@[go_sem] theorem ann10_s:ann10.imm=[2,25]∧ann10.frz=[]∧ann10.live=lv10∧ann10.head=[]:=⟨rfl,rfl,rfl,rfl⟩
@[go_sem] def lv11:List (Nat×List Nat):=[(15,[4,5]),(14,[4,8]),(13,[4,5]),(12,[4,8]),(11,[4,8,9,62]),(10,[4,8,9,10]),(9,[4,5]),(8,[4,8,7,54]),(7,[4,8,7,6]),(6,[4,7,6]),(5,[4,6,2]),(4,[4,5]),(3,[4,2,1,25]),(2,[4,5]),(1,[4,2,1,18]),(0,[4,2,1])]
def ann11:Ann:=⟨[2,29],[],lv11,[]⟩
@[go_sem] theorem ann11_s:ann11.imm=[2,29]∧ann11.frz=[]∧ann11.live=lv11∧ann11.head=[]:=⟨rfl,rfl,rfl,rfl⟩
def ann12:Ann:=⟨[2,3],[],[(1,[4]),(0,[3,2])],[]⟩
@[go_sem] theorem ann12_s:ann12.imm=[2,3]∧ann12.frz=[]∧ann12.live=[(1,[4]),(0,[3,2])]∧ann12.head=[]:=⟨rfl,rfl,rfl,rfl⟩
@[go_sem] def lv13:List (Nat×List Nat):=[(9,[4]),(8,[13,1,0,12]),(7,[4]),(6,[1,0,12,13,24]),(5,[1,0,12,13,5]),(4,[1,0,12,13,14]),(3,[13,1,0,12]),(2,[4]),(1,[1,0,10]),(0,[1,0])]
def ann13:Ann:=⟨[],[],lv13,[(4,[13,1,0,12])]⟩
@[go_sem] theorem ann13_s:ann13.imm=[]∧ann13.frz=[]∧ann13.live=lv13∧ann13.head=[(4,[13,1,0,12])]:=⟨rfl,rfl,rfl,rfl⟩
def ann14:Ann:=⟨[1],[],[(3,[2,3]),(2,[2,3]),(1,[2,1,16]),(0,[2,1])],[]⟩
@[go_sem] theorem ann14_s:ann14.imm=[1]∧ann14.frz=[]∧ann14.live=[(3,[2,3]),(2,[2,3]),(1,[2,1,16]),(0,[2,1])]∧ann14.head=[]:=⟨rfl,rfl,rfl,rfl⟩
def ann15:Ann:=⟨[1],[],[(1,[2]),(0,[1])],[]⟩
@[go_sem] theorem ann15_s:ann15.imm=[1]∧ann15.frz=[]∧ann15.live=[(1,[2]),(0,[1])]∧ann15.head=[]:=⟨rfl,rfl,rfl,rfl⟩
@[go_sem] def lv16:List (Nat×List Nat):=[(8,[4]),(5,[5,3,2]),(7,[4]),(6,[3,2,5,60]),(4,[3,2,5,47]),(3,[5,3,2]),(2,[4]),(1,[3,2,42]),(0,[3,2])]
def ann16:Ann:=⟨[2,3],[],lv16,[(4,[5,3,2])]⟩
@[go_sem] theorem ann16_s:ann16.imm=[2,3]∧ann16.frz=[]∧ann16.live=lv16∧ann16.head=[(4,[5,3,2])]:=⟨rfl,rfl,rfl,rfl⟩
def ann17:Ann:=⟨[1,7],[],[(3,[2]),(2,[2,4]),(1,[2,1,3]),(0,[2,1])],[]⟩
@[go_sem] theorem ann17_s:ann17.imm=[1,7]∧ann17.frz=[]∧ann17.live=[(3,[2]),(2,[2,4]),(1,[2,1,3]),(0,[2,1])]∧ann17.head=[]:=⟨rfl,rfl,rfl,rfl⟩
@[go_sem] def lv24:List (Nat×List Nat):=[(6,[6,7]),(5,[6,7]),(4,[6,9,2,8,25]),(3,[6,9,2,8]),(2,[6,7]),(1,[6,2,1,3,16]),(0,[6,2,1,3])]
def ann24:Ann:=⟨[3],[],lv24,[]⟩
@[go_sem] theorem ann24_s:ann24.imm=[3]∧ann24.frz=[]∧ann24.live=lv24∧ann24.head=[]:=⟨rfl,rfl,rfl,rfl⟩
@[go_sem] def lv25:List (Nat×List Nat):=[(13,[6,7]),(12,[6,7]),(11,[6,2,9,49]),(10,[6,2,9]),(9,[6,7]),(8,[6,2,1,3,42]),(5,[6,8,1,2,3]),(7,[6,7]),(6,[6,1,2,3,8,38]),(4,[6,1,2,3,8,22]),(3,[6,8,1,2,3]),(2,[6,7]),(1,[6,1,2,3,17]),(0,[6,1,2,3])]
def ann25:Ann:=⟨[3],[],lv25,[(4,[6,8,1,2,3])]⟩
@[go_sem] theorem ann25_s:ann25.imm=[3]∧ann25.frz=[]∧ann25.live=lv25∧ann25.head=[(4,[6,8,1,2,3])]:=⟨rfl,rfl,rfl,rfl⟩
def ann26:Ann:=⟨[],[],[(1,[2]),(0,[2,0])],[]⟩
@[go_sem] theorem ann26_s:ann26.imm=[]∧ann26.frz=[]∧ann26.live=[(1,[2]),(0,[2,0])]∧ann26.head=[]:=⟨rfl,rfl,rfl,rfl⟩
def ann27:Ann:=⟨[4,5],[],[(1,[6]),(0,[6,5,4,0])],[]⟩
@[go_sem] theorem ann27_s:ann27.imm=[4,5]∧ann27.frz=[]∧ann27.live=[(1,[6]),(0,[6,5,4,0])]∧ann27.head=[]:=⟨rfl,rfl,rfl,rfl⟩
def ann28:Ann:=⟨[],[],[(1,[4]),(0,[1,0])],[]⟩
@[go_sem] theorem ann28_s:ann28.imm=[]∧ann28.frz=[]∧ann28.live=[(1,[4]),(0,[1,0])]∧ann28.head=[]:=⟨rfl,rfl,rfl,rfl⟩
def ann29:Ann:=⟨[2],[],[(1,[3]),(0,[1,2])],[]⟩
@[go_sem] theorem ann29_s:ann29.imm=[2]∧ann29.frz=[]∧ann29.live=[(1,[3]),(0,[1,2])]∧ann29.head=[]:=⟨rfl,rfl,rfl,rfl⟩
@[go_sem] def lv30:List (Nat×List Nat):=[(4,[6]),(3,[6]),(2,[4,5,3,57]),(1,[4,5,3]),(0,[4,5,3])]
def ann30:Ann:=⟨[3,4,5],[],lv30,[]⟩
@[go_sem] theorem ann30_s:ann30.imm=[3,4,5]∧ann30.frz=[]∧ann30.live=lv30∧ann30.head=[]:=⟨rfl,rfl,rfl,rfl⟩
def ann31:Ann:=⟨[1],[],[(2,[2]),(1,[4,3,5]),(0,[1])],[]⟩
@[go_sem] theorem ann31_s:ann31.imm=[1]∧ann31.frz=[]∧ann31.live=[(2,[2]),(1,[4,3,5]),(0,[1])]∧ann31.head=[]:=⟨rfl,rfl,rfl,rfl⟩
def ann33:Ann:=⟨[],[],[(1,[]),(0,[2,3,1,0])],[]⟩
@[go_sem] theorem ann33_s:ann33.imm=[]∧ann33.frz=[]∧ann33.live=[(1,[]),(0,[2,3,1,0])]∧ann33.head=[]:=⟨rfl,rfl,rfl,rfl⟩
@[go_sem] def lv34:List (Nat×List Nat):=[(10,[6]),(9,[47,7,2,1,45,6,46]),(8,[7,2,1,45,6,46,47]),(7,[7,2,1,45,6,46,47,9]),(6,[7,2,1,45,6,46,47,48]),(5,[47,7,2,1,45,6,46]),(4,[7,2,1,6,0]),(3,[2,1,6,0]),(2,[2,1,6,0,22]),(1,[2,1,6,0]),(0,[2,1,6,0])]
def ann34:Ann:=⟨[],[],lv34,[(6,[47,7,2,1,45,6,46])]⟩
@[go_sem] theorem ann34_s:ann34.imm=[]∧ann34.frz=[]∧ann34.live=lv34∧ann34.head=[(6,[47,7,2,1,45,6,46])]:=⟨rfl,rfl,rfl,rfl⟩
@[go_sem] def lv35:List (Nat×List Nat):=[(61,[6]),(37,[6]),(36,[12,13,0]),(35,[12,13,0]),(40,[6]),(39,[12,0]),(42,[6]),(44,[6]),(46,[6]),(49,[6]),(48,[2,12,4,0]),(52,[6]),(51,[12]),(56,[6]),(55,[14,12]),(54,[14,12]),(60,[6]),(59,[2,12,15,4,0]),(58,[2,12,15,4,0]),(57,[2,12,4,0,247]),(53,[12,4,2,0,117,221]),(50,[12,4,2,0,117,207]),(47,[2,12,4,0,117,184]),(45,[12,2,4,0,117,178]),(43,[12,4,2,0,117,170]),(41,[12,4,2,0,117,164]),(38,[12,0,4,2,117,146]),(34,[12,0,2,4,117,118]),(33,[12,0,2,4,117]),(32,[12,0,2,4]),(4,[6]),(6,[6]),(8,[6]),(11,[6]),(18,[6]),(17,[8]),(16,[8,2]),(15,[2,7]),(14,[2,7,0]),(13,[2,7,0]),(20,[0,2,4]),(31,[6]),(30,[6]),(29,[9,4,0,98]),(28,[84,2,0,9,82,4,83]),(27,[2,0,9,82,4,83,84]),(26,[2,0,82,4,83,84,11,9]),(25,[2,0,82,4,83,84,9,85]),(24,[84,2,0,9,82,4,83]),(23,[2,0,9,4]),(22,[2,0,4,78]),(21,[2,0,4,78,19]),(19,[0,2,4,19,73]),(12,[2,0,4,19,45]),(10,[2,4,0,19,38]),(9,[2,4,0,19,38]),(7,[4,2,0,19,32]),(5,[4,2,0,19,26]),(3,[4,2,0,19,20]),(2,[4,2,0,19]),(1,[4,2,0]),(0,[4,2,0])]
def ann35:Ann:=⟨[4,31,37,44,69,103,144,169,177,183,205,281,291],[],lv35,[(25,[84,2,0,9,82,4,83])]⟩
@[go_sem] theorem ann35_s:ann35.imm=[4,31,37,44,69,103,144,169,177,183,205,281,291]∧ann35.frz=[]∧ann35.live=lv35∧ann35.head=[(25,[84,2,0,9,82,4,83])]:=⟨rfl,rfl,rfl,rfl⟩
def ann36:Ann:=⟨[1],[],[(1,[2]),(0,[1])],[]⟩
@[go_sem] theorem ann36_s:ann36.imm=[1]∧ann36.frz=[]∧ann36.live=[(1,[2]),(0,[1])]∧ann36.head=[]:=⟨rfl,rfl,rfl,rfl⟩
def ann37:Ann:=⟨[1],[],[(1,[2]),(0,[1])],[]⟩
@[go_sem] theorem ann37_s:ann37.imm=[1]∧ann37.frz=[]∧ann37.live=[(1,[2]),(0,[1])]∧ann37.head=[]:=⟨rfl,rfl,rfl,rfl⟩
@[go_sem] def lv38:List (Nat×List Nat):=[(67,[6]),(66,[6]),(65,[6,9,2,13,4,0,290]),(64,[6,9,2,13,4,0]),(63,[6,9,2,4,0,283]),(62,[6]),(61,[6]),(60,[6,12,9,0,273]),(59,[6,12,9,0]),(58,[6,9,0,4,266]),(57,[6,9,0,4,2,263]),(56,[6]),(55,[6,9,2,4,0,251]),(54,[6]),(53,[6,11,2,4,0]),(52,[6,2,4,0,9,236]),(51,[6]),(50,[6,9,0,2,4,230]),(49,[6]),(48,[6,9,0,2,4,224]),(47,[6]),(46,[6,9,4,0,2,216]),(45,[6]),(44,[6,9,4,0,2,210]),(43,[6]),(42,[6,9,0,4,2,204]),(41,[6]),(40,[6,10,9,0]),(39,[6,9,0,2,4,189]),(38,[6]),(37,[6,9,0,2,4,185]),(36,[6,9,0,2,4]),(35,[6]),(34,[6]),(33,[6,0,7,4,166]),(32,[6]),(31,[6,7,4,0,157]),(30,[6]),(29,[6,7,4,0,153]),(27,[8,2,4,0,7,6]),(28,[2,4,0,7,6,8]),(26,[2,4,0,6,8,7,135]),(25,[8,2,4,0,7,6]),(24,[2,4,0,7,6]),(23,[2,4,0,6,130]),(22,[6]),(21,[6,2,4]),(20,[6]),(19,[6,0,2,4,107]),(18,[6]),(17,[6,0,2,4,96]),(16,[6,0,2,4,82]),(15,[6]),(14,[6,4,0,2,75]),(13,[6]),(12,[6,2,4,0,69]),(11,[6]),(10,[6,4,2,0,58]),(9,[6]),(8,[6,4,2,0,52]),(7,[6]),(6,[6,4,2,0,40]),(5,[6,4,2,0]),(4,[6]),(3,[6,0,4,2,28]),(2,[6]),(1,[6,0,4,2,18]),(0,[6,0,4,2])]
def ann38:Ann:=⟨[4],[],lv38,[(26,[8,2,4,0,7,6])]⟩
@[go_sem] theorem ann38_s:ann38.imm=[4]∧ann38.frz=[]∧ann38.live=lv38∧ann38.head=[(26,[8,2,4,0,7,6])]:=⟨rfl,rfl,rfl,rfl⟩
@[go_sem] def lv39:List (Nat×List Nat):=[(15,[6,7]),(9,[6,9,8,2,1,3]),(14,[6,8,2,1,3,9]),(13,[6,8,2,3,9,11]),(12,[6,7]),(11,[6,8,2,3,9,11,10,55]),(10,[6,8,2,3,9,11,10]),(8,[6,8,2,3,9,1,39]),(7,[6,9,8,2,1,3]),(6,[6,8,2,1,3]),(5,[6,7]),(4,[6,1,2,3,23]),(3,[6,1,2,3]),(2,[6,7]),(1,[6,2,3,1,17]),(0,[6,2,3,1])]
def ann39:Ann:=⟨[3],[],lv39,[(8,[6,9,8,2,1,3])]⟩
@[go_sem] theorem ann39_s:ann39.imm=[3]∧ann39.frz=[]∧ann39.live=lv39∧ann39.head=[(8,[6,9,8,2,1,3])]:=⟨rfl,rfl,rfl,rfl⟩
@[go_sem] def lv40:List (Nat×List Nat):=[(8,[4]),(5,[5,1,0]),(7,[4]),(6,[1,0,5,25]),(4,[1,0,5,14]),(3,[5,1,0]),(2,[4]),(1,[1,0,10]),(0,[1,0])]
def ann40:Ann:=⟨[],[],lv40,[(4,[5,1,0])]⟩
@[go_sem] theorem ann40_s:ann40.imm=[]∧ann40.frz=[]∧ann40.live=lv40∧ann40.head=[(4,[5,1,0])]:=⟨rfl,rfl,rfl,rfl⟩
def ann41:Ann:=⟨[1],[],[(1,[2]),(0,[1])],[]⟩
@[go_sem] theorem ann41_s:ann41.imm=[1]∧ann41.frz=[]∧ann41.live=[(1,[2]),(0,[1])]∧ann41.head=[]:=⟨rfl,rfl,rfl,rfl⟩
@[go_sem] def lv42:List (Nat×List Nat):=[(9,[2]),(3,[2]),(8,[2]),(7,[1,21]),(6,[1,21,4]),(5,[1,21,4]),(4,[1,21,4]),(2,[1,4,5]),(1,[1,4]),(0,[1])]
def ann42:Ann:=⟨[1],[],lv42,[]⟩
@[go_sem] theorem ann42_s:ann42.imm=[1]∧ann42.frz=[]∧ann42.live=lv42∧ann42.head=[]:=⟨rfl,rfl,rfl,rfl⟩
@[go_sem] def lv43:List (Nat×List Nat):=[(11,[2]),(10,[33,6,31,2,32]),(9,[6,31,2,32,33]),(8,[6,31,2,32,33,8]),(7,[6,31,2,32,33,34]),(6,[33,6,31,2,32]),(5,[6,2,1]),(4,[2]),(3,[2,1,4,19]),(2,[2,1,4,5]),(1,[2,1,3]),(0,[2,1])]
def ann43:Ann:=⟨[1],[],lv43,[(7,[33,6,31,2,32])]⟩
@[go_sem] theorem ann43_s:ann43.imm=[1]∧ann43.frz=[]∧ann43.live=lv43∧ann43.head=[(7,[33,6,31,2,32])]:=⟨rfl,rfl,rfl,rfl⟩
def ann44:Ann:=⟨[1],[],[(1,[2]),(0,[1])],[]⟩
@[go_sem] theorem ann44_s:ann44.imm=[1]∧ann44.frz=[]∧ann44.live=[(1,[2]),(0,[1])]∧ann44.head=[]:=⟨rfl,rfl,rfl,rfl⟩
@[go_sem] def lv45:List (Nat×List Nat):=[(10,[2]),(7,[3,1]),(9,[2]),(8,[1,3,42]),(6,[1,3,33]),(5,[3,1]),(4,[2]),(3,[1,28]),(2,[2]),(1,[1,6]),(0,[1])]
def ann45:Ann:=⟨[1],[],lv45,[(6,[3,1])]⟩
@[go_sem] theorem ann45_s:ann45.imm=[1]∧ann45.frz=[]∧ann45.live=lv45∧ann45.head=[(6,[3,1])]:=⟨rfl,rfl,rfl,rfl⟩
@[go_sem] def lv46:List (Nat×List Nat):=[(8,[4]),(5,[5,1,0]),(7,[4]),(6,[1,0,5,26]),(4,[1,0,5,14]),(3,[5,1,0]),(2,[4]),(1,[1,0,10]),(0,[1,0])]
def ann46:Ann:=⟨[],[],lv46,[(4,[5,1,0])]⟩
@[go_sem] theorem ann46_s:ann46.imm=[]∧ann46.frz=[]∧ann46.live=lv46∧ann46.head=[(4,[5,1,0])]:=⟨rfl,rfl,rfl,rfl⟩
@[go_sem] def lv48:List (Nat×List Nat):=[(20,[2,3]),(10,[2,3]),(13,[2,3]),(16,[2,3]),(19,[2,3]),(18,[20]),(17,[20,4]),(15,[4,17]),(14,[4,17]),(12,[4,14]),(11,[4,14]),(9,[4,5]),(8,[4,5]),(7,[4,5]),(6,[4,5]),(5,[4,5]),(4,[4,5]),(3,[4,5]),(2,[4,5]),(1,[4]),(0,[0])]
def ann48:Ann:=⟨[],[],lv48,[]⟩
@[go_sem] theorem ann48_s:ann48.imm=[]∧ann48.frz=[]∧ann48.live=lv48∧ann48.head=[]:=⟨rfl,rfl,rfl,rfl⟩
@[go_sem] def lv53:List (Nat×List Nat):=[(32,[4]),(4,[4]),(6,[4]),(8,[4]),(15,[4]),(14,[4]),(13,[6,5,62]),(12,[6,5,0]),(11,[6,5,0,59]),(17,[4]),(19,[4]),(21,[4]),(23,[4]),(25,[4]),(27,[4]),(29,[4]),(31,[4]),(30,[5,159]),(28,[6,5,16,147]),(26,[5,6,16,139]),(24,[6,5,16,127]),(22,[6,5,16,115]),(20,[6,5,16,103]),(18,[6,5,16,91]),(16,[5,6,16,83]),(10,[6,5,0,16,52]),(9,[6,5,0,16,52]),(7,[6,5,0,16,41]),(5,[6,5,0,16,29]),(3,[6,5,0,16,17]),(2,[6,5,0,16]),(1,[6,5,0]),(0,[0,1])]
def ann53:Ann:=⟨[],[],lv53,[]⟩
@[go_sem] theorem ann53_s:ann53.imm=[]∧ann53.frz=[]∧ann53.live=lv53∧ann53.head=[]:=⟨rfl,rfl,rfl,rfl⟩
@[go_sem] def lv56:List (Nat×List Nat):=[(9,[4]),(6,[6,5,1,0]),(8,[4]),(7,[5,1,0,6,21]),(5,[5,1,0,6,12]),(4,[6,5,1,0]),(3,[5,1,0]),(2,[1,0,5,8]),(1,[1,0,5]),(0,[1,0])]
def ann56:Ann:=⟨[],[],lv56,[(5,[6,5,1,0])]⟩
@[go_sem] theorem ann56_s:ann56.imm=[]∧ann56.frz=[]∧ann56.live=lv56∧ann56.head=[(5,[6,5,1,0])]:=⟨rfl,rfl,rfl,rfl⟩
@[go_sem] def lv57:List (Nat×List Nat):=[(33,[6]),(32,[6]),(31,[6]),(30,[6,0,7,139]),(29,[6]),(28,[6,7,0,128]),(27,[6]),(26,[6,8,7,0,1,120]),(25,[6]),(24,[6,7,0,8,1,113]),(23,[6]),(22,[6,8,7,0,1,104]),(21,[6]),(20,[6,8,7,0,1,96]),(19,[6]),(18,[6,8,7,0,1,88]),(17,[6]),(16,[6,8,7,0,1,80]),(15,[6]),(14,[6,7,0,8,1,73]),(13,[6]),(12,[6]),(11,[6,8,7,0,57]),(10,[6]),(9,[6,0,8,7,1,53]),(8,[6,0,8,7,1,50]),(7,[6]),(6,[6,8,7,0,1,37]),(5,[6]),(4,[6,8,7,0,1,28]),(3,[6]),(2,[6,8,7,0,1,19]),(1,[6,8,7,0,1]),(0,[6,0,1,2])]
def ann57:Ann:=⟨[],[],lv57,[]⟩
@[go_sem] theorem ann57_s:ann57.imm=[]∧ann57.frz=[]∧ann57.live=lv57∧ann57.head=[]:=⟨rfl,rfl,rfl,rfl⟩
def ann58:Ann:=⟨[1],[],[(1,[2]),(0,[1])],[]⟩
@[go_sem] theorem ann58_s:ann58.imm=[1]∧ann58.frz=[]∧ann58.live=[(1,[2]),(0,[1])]∧ann58.head=[]:=⟨rfl,rfl,rfl,rfl⟩
@[go_sem] def lv59:List (Nat×List Nat):=[(12,[4,5]),(11,[36,6,34,4,7,35]),(10,[6,34,4,7,35,36]),(9,[6,34,4,7,35,36,10]),(8,[6,34,4,7,35,36,9]),(7,[6,34,4,7,35,36,37]),(6,[36,6,34,4,7,35]),(5,[6,4,7,1]),(2,[4,5]),(4,[4,5]),(3,[4,1,2,22]),(1,[4,1,2,12]),(0,[4,1,2])]
def ann59:Ann:=⟨[2],[],lv59,[(7,[36,6,34,4,7,35])]⟩
@[go_sem] theorem ann59_s:ann59.imm=[2]∧ann59.frz=[]∧ann59.live=lv59∧ann59.head=[(7,[36,6,34,4,7,35])]:=⟨rfl,rfl,rfl,rfl⟩
@[go_sem] def lv60:List (Nat×List Nat):=[(5,[4]),(3,[5,2,1,4]),(4,[2,1,4,5]),(2,[2,1,4,5,9]),(1,[5,2,1,4]),(0,[2,1,4])]
def ann60:Ann:=⟨[],[],lv60,[(2,[5,2,1,4])]⟩
@[go_sem] theorem ann60_s:ann60.imm=[]∧ann60.frz=[]∧ann60.live=lv60∧ann60.head=[(2,[5,2,1,4])]:=⟨rfl,rfl,rfl,rfl⟩
@[go_sem] def lv61:List (Nat×List Nat):=[(7,[4]),(6,[8,0,1,7]),(5,[4]),(4,[5,0,1,7,8,16]),(3,[5,0,1,7,8]),(2,[0,1,7,8,9]),(1,[8,0,1,7]),(0,[0,1])]
def ann61:Ann:=⟨[],[],lv61,[(2,[8,0,1,7])]⟩
@[go_sem] theorem ann61_s:ann61.imm=[]∧ann61.frz=[]∧ann61.live=lv61∧ann61.head=[(2,[8,0,1,7])]:=⟨rfl,rfl,rfl,rfl⟩
def ann62:Ann:=⟨[],[],[(1,[4]),(0,[1,0])],[]⟩
@[go_sem] theorem ann62_s:ann62.imm=[]∧ann62.frz=[]∧ann62.live=[(1,[4]),(0,[1,0])]∧ann62.head=[]:=⟨rfl,rfl,rfl,rfl⟩
def ann63:Ann:=⟨[],[],[(1,[2]),(0,[0])],[]⟩
@[go_sem] theorem ann63_s:ann63.imm=[]∧ann63.frz=[]∧ann63.live=[(1,[2]),(0,[0])]∧ann63.head=[]:=⟨rfl,rfl,rfl,rfl⟩
@[go_sem] def lv64:List (Nat×List Nat):=[(4,[6]),(3,[6]),(2,[4,5,3,43]),(1,[4,5,3]),(0,[4,5,3])]
def ann64:Ann:=⟨[3,4,5],[],lv64,[]⟩
@[go_sem] theorem ann64_s:ann64.imm=[3,4,5]∧ann64.frz=[]∧ann64.live=lv64∧ann64.head=[]:=⟨rfl,rfl,rfl,rfl⟩
def ann65:Ann:=⟨[2,3],[],[(2,[4]),(1,[3,2]),(0,[3,2])],[]⟩
@[go_sem] theorem ann65_s:ann65.imm=[2,3]∧ann65.frz=[]∧ann65.live=[(2,[4]),(1,[3,2]),(0,[3,2])]∧ann65.head=[]:=⟨rfl,rfl,rfl,rfl⟩
def ann66:Ann:=⟨[3],[],[(1,[4]),(0,[2,1,3])],[]⟩
@[go_sem] theorem ann66_s:ann66.imm=[3]∧ann66.frz=[]∧ann66.live=[(1,[4]),(0,[2,1,3])]∧ann66.head=[]:=⟨rfl,rfl,rfl,rfl⟩
@[go_sem] def lv67:List (Nat×List Nat):=[(4,[2,3,4]),(3,[3,2]),(2,[2,3,4]),(1,[1,7]),(0,[1])]
def ann67:Ann:=⟨[1],[],lv67,[]⟩
@[go_sem] theorem ann67_s:ann67.imm=[1]∧ann67.frz=[]∧ann67.live=lv67∧ann67.head=[]:=⟨rfl,rfl,rfl,rfl⟩
def ann69:Ann:=⟨[],[],[(0,[])],[]⟩
@[go_sem] theorem ann69_s:ann69.imm=[]∧ann69.frz=[]∧ann69.live=[(0,[])]∧ann69.head=[]:=⟨rfl,rfl,rfl,rfl⟩
def ann71:Ann:=⟨[],[],[(2,[]),(1,[0]),(0,[0,10])],[]⟩
@[go_sem] theorem ann71_s:ann71.imm=[]∧ann71.frz=[]∧ann71.live=[(2,[]),(1,[0]),(0,[0,10])]∧ann71.head=[]:=⟨rfl,rfl,rfl,rfl⟩
@[go_sem] def lv72:List (Nat×List Nat):=[(4,[4]),(2,[1,0]),(3,[0,1]),(1,[1,0,6]),(0,[1,0])]
def ann72:Ann:=⟨[],[],lv72,[(1,[1,0])]⟩
@[go_sem] theorem ann72_s:ann72.imm=[]∧ann72.frz=[]∧ann72.live=lv72∧ann72.head=[(1,[1,0])]:=⟨rfl,rfl,rfl,rfl⟩
def ann73:Ann:=⟨[],[],[(1,[]),(0,[3])],[]⟩
@[go_sem] theorem ann73_s:ann73.imm=[]∧ann73.frz=[]∧ann73.live=[(1,[]),(0,[3])]∧ann73.head=[]:=⟨rfl,rfl,rfl,rfl⟩
@[go_sem] def lv74:List (Nat×List Nat):=[(7,[6]),(6,[2,1]),(5,[2,1,0]),(4,[2,1,0,26]),(3,[2,1,0,20]),(2,[2,1,0]),(1,[2,1,0,8]),(0,[2,1,0])]
def ann74:Ann:=⟨[],[],lv74,[]⟩
@[go_sem] theorem ann74_s:ann74.imm=[]∧ann74.frz=[]∧ann74.live=lv74∧ann74.head=[]:=⟨rfl,rfl,rfl,rfl⟩
def ann75:Ann:=⟨[],[],[(1,[4]),(0,[1,0])],[]⟩
@[go_sem] theorem ann75_s:ann75.imm=[]∧ann75.frz=[]∧ann75.live=[(1,[4]),(0,[1,0])]∧ann75.head=[]:=⟨rfl,rfl,rfl,rfl⟩
@[go_sem] def lv76:List (Nat×List Nat):=[(7,[4]),(6,[8,0,1,7]),(5,[4]),(4,[5,0,1,7,8,16]),(3,[5,0,1,7,8]),(2,[0,1,7,8,9]),(1,[8,0,1,7]),(0,[0,1])]
def ann76:Ann:=⟨[],[],lv76,[(2,[8,0,1,7])]⟩
@[go_sem] theorem ann76_s:ann76.imm=[]∧ann76.frz=[]∧ann76.live=lv76∧ann76.head=[(2,[8,0,1,7])]:=⟨rfl,rfl,rfl,rfl⟩
@[go_sem] def lv77:List (Nat×List Nat):=[(12,[6]),(10,[7,2,1,3]),(11,[2,1,3,7]),(9,[2,3,7,1,45]),(8,[7,2,1,3]),(7,[2,1,3]),(6,[2,3,1,31]),(5,[2,3,1]),(4,[2,3,1,23]),(3,[2,3,1]),(2,[6]),(1,[2,3,1,18]),(0,[2,3,1])]
def ann77:Ann:=⟨[3],[],lv77,[(9,[7,2,1,3])]⟩
@[go_sem] theorem ann77_s:ann77.imm=[3]∧ann77.frz=[]∧ann77.live=lv77∧ann77.head=[(9,[7,2,1,3])]:=⟨rfl,rfl,rfl,rfl⟩
def ann78:Ann:=⟨[1],[],[(1,[2]),(0,[1])],[]⟩
@[go_sem] theorem ann78_s:ann78.imm=[1]∧ann78.frz=[]∧ann78.live=[(1,[2]),(0,[1])]∧ann78.head=[]:=⟨rfl,rfl,rfl,rfl⟩
def ann79:Ann:=⟨[1],[],[(1,[2]),(0,[1])],[]⟩
@[go_sem] theorem ann79_s:ann79.imm=[1]∧ann79.frz=[]∧ann79.live=[(1,[2]),(0,[1])]∧ann79.head=[]:=⟨rfl,rfl,rfl,rfl⟩
@[go_sem] def lv80:List (Nat×List Nat):=[(3,[6]),(2,[6]),(1,[6,2,1,0,11]),(0,[6,2,1,0])]
def ann80:Ann:=⟨[],[],lv80,[]⟩
@[go_sem] theorem ann80_s:ann80.imm=[]∧ann80.frz=[]∧ann80.live=lv80∧ann80.head=[]:=⟨rfl,rfl,rfl,rfl⟩
@[go_sem] def lv81:List (Nat×List Nat):=[(12,[8]),(10,[10,3,9,8,5,0]),(11,[3,9,8,5,0,10]),(9,[3,8,5,0,10,9,39]),(8,[10,3,9,8,5,0]),(7,[3,9,8,5,0]),(6,[3,8,5,0,9,32]),(5,[3,8,5,0,9]),(4,[8]),(3,[8,0,3,5,26]),(2,[8]),(1,[8,0,3,5,2,15]),(0,[8,0,3,5,2])]
def ann81:Ann:=⟨[5],[],lv81,[(9,[10,3,9,8,5,0])]⟩
@[go_sem] theorem ann81_s:ann81.imm=[5]∧ann81.frz=[]∧ann81.live=lv81∧ann81.head=[(9,[10,3,9,8,5,0])]:=⟨rfl,rfl,rfl,rfl⟩
@[go_sem] def lv82:List (Nat×List Nat):=[(5,[6]),(4,[6]),(3,[6,0,4,16]),(2,[6]),(1,[6,0,4,2,11]),(0,[6,0,4,2])]
def ann82:Ann:=⟨[4],[],lv82,[]⟩
@[go_sem] theorem ann82_s:ann82.imm=[4]∧ann82.frz=[]∧ann82.live=lv82∧ann82.head=[]:=⟨rfl,rfl,rfl,rfl⟩
def ann83:Ann:=⟨[3],[],[(3,[4]),(2,[3,5]),(1,[3,0,5]),(0,[3,0])],[]⟩
@[go_sem] theorem ann83_s:ann83.imm=[3]∧ann83.frz=[]∧ann83.live=[(3,[4]),(2,[3,5]),(1,[3,0,5]),(0,[3,0])]∧ann83.head=[]:=⟨rfl,rfl,rfl,rfl⟩
@[go_sem] def lv84:List (Nat×List Nat):=[(6,[4]),(3,[5,1,0]),(5,[4]),(4,[5,1,0,17]),(2,[5,1,0,9]),(1,[5,1,0]),(0,[1,0])]
def ann84:Ann:=⟨[],[],lv84,[(2,[5,1,0])]⟩
@[go_sem] theorem ann84_s:ann84.imm=[]∧ann84.frz=[]∧ann84.live=lv84∧ann84.head=[(2,[5,1,0])]:=⟨rfl,rfl,rfl,rfl⟩
def ann85:Ann:=⟨[1],[],[(2,[2]),(1,[4]),(0,[1])],[]⟩
@[go_sem] theorem ann85_s:ann85.imm=[1]∧ann85.frz=[]∧ann85.live=[(2,[2]),(1,[4]),(0,[1])]∧ann85.head=[]:=⟨rfl,rfl,rfl,rfl⟩
@[go_sem] def lv86:List (Nat×List Nat):=[(13,[2]),(7,[2]),(12,[2]),(11,[1,11]),(10,[1,11,4]),(9,[1,11,4]),(8,[1,11,4]),(6,[1,4,5]),(5,[1,4,5]),(4,[1,4,5]),(3,[1,4,5]),(2,[1,4,5]),(1,[1,4]),(0,[1])]
def ann86:Ann:=⟨[1],[],lv86,[]⟩
@[go_sem] theorem ann86_s:ann86.imm=[1]∧ann86.frz=[]∧ann86.live=lv86∧ann86.head=[]:=⟨rfl,rfl,rfl,rfl⟩
def ann87:Ann:=⟨[1],[],[(1,[2]),(0,[1])],[]⟩
@[go_sem] theorem ann87_s:ann87.imm=[1]∧ann87.frz=[]∧ann87.live=[(1,[2]),(0,[1])]∧ann87.head=[]:=⟨rfl,rfl,rfl,rfl⟩
@[go_sem] def lv88:List (Nat×List Nat):=[(18,[2]),(7,[2]),(17,[2]),(14,[3,1]),(16,[2]),(15,[1,3,30]),(13,[1,3,21]),(12,[3,1]),(11,[1,12]),(10,[1,12,5]),(9,[1,12,5]),(8,[1,12,5]),(6,[1,5,6]),(5,[1,5,6]),(4,[1,5,6]),(3,[1,5,6]),(2,[1,5,6]),(1,[1,5]),(0,[1])]
def ann88:Ann:=⟨[1],[],lv88,[(13,[3,1])]⟩
@[go_sem] theorem ann88_s:ann88.imm=[1]∧ann88.frz=[]∧ann88.live=lv88∧ann88.head=[(13,[3,1])]:=⟨rfl,rfl,rfl,rfl⟩
def ann90:Ann:=⟨[12],[],[(3,[2]),(2,[0]),(1,[0,8]),(0,[0])],[]⟩
@[go_sem] theorem ann90_s:ann90.imm=[12]∧ann90.frz=[]∧ann90.live=[(3,[2]),(2,[0]),(1,[0,8]),(0,[0])]∧ann90.head=[]:=⟨rfl,rfl,rfl,rfl⟩
def ann91:Ann:=⟨[],[],[(3,[4]),(2,[1,0]),(1,[1,0,18]),(0,[1,0])],[]⟩
@[go_sem] theorem ann91_s:ann91.imm=[]∧ann91.frz=[]∧ann91.live=[(3,[4]),(2,[1,0]),(1,[1,0,18]),(0,[1,0])]∧ann91.head=[]:=⟨rfl,rfl,rfl,rfl⟩
def ann92:Ann:=⟨[9,12],[],[(4,[2]),(3,[3]),(2,[3,4]),(1,[3,0]),(0,[0])],[]⟩
@[go_sem] theorem ann92_s:ann92.imm=[9,12]∧ann92.frz=[]∧ann92.live=[(4,[2]),(3,[3]),(2,[3,4]),(1,[3,0]),(0,[0])]∧ann92.head=[]:=⟨rfl,rfl,rfl,rfl⟩
def ann93:Ann:=⟨[9],[],[(3,[2]),(2,[0]),(1,[0,5]),(0,[0])],[]⟩
@[go_sem] theorem ann93_s:ann93.imm=[9]∧ann93.frz=[]∧ann93.live=[(3,[2]),(2,[0]),(1,[0,5]),(0,[0])]∧ann93.head=[]:=⟨rfl,rfl,rfl,rfl⟩
def ann95:Ann:=⟨[2],[],[(1,[0]),(0,[])],[]⟩
@[go_sem] theorem ann95_s:ann95.imm=[2]∧ann95.frz=[]∧ann95.live=[(1,[0]),(0,[])]∧ann95.head=[]:=⟨rfl,rfl,rfl,rfl⟩
def ann98:Ann:=⟨[],[],[(1,[2]),(0,[0])],[]⟩
@[go_sem] theorem ann98_s:ann98.imm=[]∧ann98.frz=[]∧ann98.live=[(1,[2]),(0,[0])]∧ann98.head=[]:=⟨rfl,rfl,rfl,rfl⟩
def ann99:Ann:=⟨[],[],[(3,[2]),(2,[2]),(1,[16]),(0,[0])],[]⟩
@[go_sem] theorem ann99_s:ann99.imm=[]∧ann99.frz=[]∧ann99.live=[(3,[2]),(2,[2]),(1,[16]),(0,[0])]∧ann99.head=[]:=⟨rfl,rfl,rfl,rfl⟩
def ann100:Ann:=⟨[],[],[(3,[4]),(2,[4]),(1,[4,0,1,10]),(0,[4,0,1])],[]⟩
@[go_sem] theorem ann100_s:ann100.imm=[]∧ann100.frz=[]∧ann100.live=[(3,[4]),(2,[4]),(1,[4,0,1,10]),(0,[4,0,1])]∧ann100.head=[]:=⟨rfl,rfl,rfl,rfl⟩
@[go_sem] def lv101:List (Nat×List Nat):=[(5,[4]),(4,[4]),(3,[1,0,24]),(2,[1,0,6,5]),(1,[1,0,12]),(0,[1,0])]
def ann101:Ann:=⟨[],[],lv101,[]⟩
@[go_sem] theorem ann101_s:ann101.imm=[]∧ann101.frz=[]∧ann101.live=lv101∧ann101.head=[]:=⟨rfl,rfl,rfl,rfl⟩
@[go_sem] def lv102:List (Nat×List Nat):=[(4,[2]),(3,[2,3]),(2,[2,3,4]),(1,[2,3,0]),(0,[2,0])]
def ann102:Ann:=⟨[],[],lv102,[]⟩
@[go_sem] theorem ann102_s:ann102.imm=[]∧ann102.frz=[]∧ann102.live=lv102∧ann102.head=[]:=⟨rfl,rfl,rfl,rfl⟩
def ann103:Ann:=⟨[],[],[(3,[4]),(2,[4]),(1,[4,0,1,7]),(0,[4,0,1])],[]⟩
@[go_sem] theorem ann103_s:ann103.imm=[]∧ann103.frz=[]∧ann103.live=[(3,[4]),(2,[4]),(1,[4,0,1,7]),(0,[4,0,1])]∧ann103.head=[]:=⟨rfl,rfl,rfl,rfl⟩
def ann104:Ann:=⟨[],[],[(3,[2]),(2,[2]),(1,[0,4]),(0,[0])],[]⟩
@[go_sem] theorem ann104_s:ann104.imm=[]∧ann104.frz=[]∧ann104.live=[(3,[2]),(2,[2]),(1,[0,4]),(0,[0])]∧ann104.head=[]:=⟨rfl,rfl,rfl,rfl⟩
def ann105:Ann:=⟨[],[],[(1,[0]),(0,[0])],[]⟩
@[go_sem] theorem ann105_s:ann105.imm=[]∧ann105.frz=[]∧ann105.live=[(1,[0]),(0,[0])]∧ann105.head=[]:=⟨rfl,rfl,rfl,rfl⟩
def ann106:Ann:=⟨[],[],[(1,[2]),(0,[0])],[]⟩
@[go_sem] theorem ann106_s:ann106.imm=[]∧ann106.frz=[]∧ann106.live=[(1,[2]),(0,[0])]∧ann106.head=[]:=⟨rfl,rfl,rfl,rfl⟩
def ann107:Ann:=⟨[2,3],[],[(1,[4]),(0,[4,3,2])],[]⟩
@[go_sem] theorem ann107_s:ann107.imm=[2,3]∧ann107.frz=[]∧ann107.live=[(1,[4]),(0,[4,3,2])]∧ann107.head=[]:=⟨rfl,rfl,rfl,rfl⟩
@[go_sem] def lv108:List (Nat×List Nat):=[(21,[6,7]),(20,[6,74,8,4,5,3,72,73]),(19,[6,8,4,5,3,72,73,74]),(18,[6,7]),(17,[6,13,8,4,5,3,72,73,74,12,90]),(16,[6,13,8,4,5,3,72,73,74,12]),(15,[6,8,4,5,3,72,73,74,10,11]),(14,[6,8,4,5,3,72,73,74,75]),(13,[6,74,8,4,5,3,72,73]),(12,[6,7]),(11,[6,9,8,4,5,3,68]),(10,[6,9,8,4,5,3]),(9,[6,8,4,5,3,56]),(8,[6,7]),(7,[6,9,8,4,5,3,51]),(6,[6,9,8,4,5,3]),(5,[6,8,4,5,3,39]),(4,[6,8,4,5,3]),(3,[6,8,4,5,3]),(2,[6,7]),(1,[6,5,4,3,16]),(0,[6,5,4,3])]
def ann108:Ann:=⟨[3,4,5],[],lv108,[(14,[6,74,8,4,5,3,72,73])]⟩
@[go_sem] theorem ann108_s:ann108.imm=[3,4,5]∧ann108.frz=[]∧ann108.live=lv108∧ann108.head=[(14,[6,74,8,4,5,3,72,73])]:=⟨rfl,rfl,rfl,rfl⟩
def ann109:Ann:=⟨[2],[],[(3,[4,5]),(2,[4,5]),(1,[4,2,12]),(0,[4,2,1])],[]⟩
@[go_sem] theorem ann109_s:ann109.imm=[2]∧ann109.frz=[]∧ann109.live=[(3,[4,5]),(2,[4,5]),(1,[4,2,12]),(0,[4,2,1])]∧ann109.head=[]:=⟨rfl,rfl,rfl,rfl⟩
@[go_sem] def lv110:List (Nat×List Nat):=[(7,[4]),(6,[8,0,1,7]),(5,[4]),(4,[5,0,1,7,8,16]),(3,[5,0,1,7,8]),(2,[0,1,7,8,9]),(1,[8,0,1,7]),(0,[0,1])]
def ann110:Ann:=⟨[],[],lv110,[(2,[8,0,1,7])]⟩
@[go_sem] theorem ann110_s:ann110.imm=[]∧ann110.frz=[]∧ann110.live=lv110∧ann110.head=[(2,[8,0,1,7])]:=⟨rfl,rfl,rfl,rfl⟩
def ann111:Ann:=⟨[],[],[(1,[2]),(0,[0])],[]⟩
@[go_sem] theorem ann111_s:ann111.imm=[]∧ann111.frz=[]∧ann111.live=[(1,[2]),(0,[0])]∧ann111.head=[]:=⟨rfl,rfl,rfl,rfl⟩
def ann112:Ann:=⟨[],[],[(1,[4]),(0,[1,0])],[]⟩
@[go_sem] theorem ann112_s:ann112.imm=[]∧ann112.frz=[]∧ann112.live=[(1,[4]),(0,[1,0])]∧ann112.head=[]:=⟨rfl,rfl,rfl,rfl⟩
def ann113:Ann:=⟨[3],[],[(1,[4]),(0,[2,1,3])],[]⟩
@[go_sem] theorem ann113_s:ann113.imm=[3]∧ann113.frz=[]∧ann113.live=[(1,[4]),(0,[2,1,3])]∧ann113.head=[]:=⟨rfl,rfl,rfl,rfl⟩
def ann114:Ann:=⟨[],[],[(1,[4]),(0,[1,0])],[]⟩
@[go_sem] theorem ann114_s:ann114.imm=[]∧ann114.frz=[]∧ann114.live=[(1,[4]),(0,[1,0])]∧ann114.head=[]:=⟨rfl,rfl,rfl,rfl⟩
def ann115:Ann:=⟨[2],[],[(1,[3]),(0,[1,2])],[]⟩
@[go_sem] theorem ann115_s:ann115.imm=[2]∧ann115.frz=[]∧ann115.live=[(1,[3]),(0,[1,2])]∧ann115.head=[]:=⟨rfl,rfl,rfl,rfl⟩
def ann116:Ann:=⟨[1],[],[(3,[2,3]),(2,[5,4]),(1,[5,4,1]),(0,[1])],[]⟩
@[go_sem] theorem ann116_s:ann116.imm=[1]∧ann116.frz=[]∧ann116.live=[(3,[2,3]),(2,[5,4]),(1,[5,4,1]),(0,[1])]∧ann116.head=[]:=⟨rfl,rfl,rfl,rfl⟩
def ann117:Ann:=⟨[],[],[(1,[4]),(0,[1,0])],[]⟩
@[go_sem] theorem ann117_s:ann117.imm=[]∧ann117.frz=[]∧ann117.live=[(1,[4]),(0,[1,0])]∧ann117.head=[]:=⟨rfl,rfl,rfl,rfl⟩
def ann118:Ann:=⟨[],[],[(1,[3]),(0,[1,0])],[]⟩
@[go_sem] theorem ann118_s:ann118.imm=[]∧ann118.frz=[]∧ann118.live=[(1,[3]),(0,[1,0])]∧ann118.head=[]:=⟨rfl,rfl,rfl,rfl⟩
@[go_sem] def lv119:List (Nat×List Nat):=[(19,[2]),(18,[2]),(17,[1,120]),(16,[2]),(15,[1,99]),(8,[2]),(7,[1,50]),(11,[2]),(10,[1,72]),(14,[2]),(13,[1,78]),(5,[2]),(4,[1,35]),(12,[1,73]),(9,[1,22,51]),(6,[1,22,36]),(3,[1,22]),(2,[2]),(1,[1,20]),(0,[1])]
def ann119:Ann:=⟨[1],[],lv119,[]⟩
@[go_sem] theorem ann119_s:ann119.imm=[1]∧ann119.frz=[]∧ann119.live=lv119∧ann119.head=[]:=⟨rfl,rfl,rfl,rfl⟩
@[go_sem] def lv120:List (Nat×List Nat):=[(10,[2]),(9,[2]),(8,[4]),(7,[4,3]),(6,[4,3]),(5,[4,3]),(4,[4,3]),(3,[4,3]),(2,[4,3]),(1,[3]),(0,[0])]
def ann120:Ann:=⟨[],[],lv120,[]⟩
@[go_sem] theorem ann120_s:ann120.imm=[]∧ann120.frz=[]∧ann120.live=lv120∧ann120.head=[]:=⟨rfl,rfl,rfl,rfl⟩
@[go_sem] def lv121:List (Nat×List Nat):=[(6,[2]),(4,[4,1,3]),(5,[1,3,4]),(3,[1,4,3,9]),(2,[4,1,3]),(1,[1,3]),(0,[1])]
def ann121:Ann:=⟨[1],[],lv121,[(3,[4,1,3])]⟩
@[go_sem] theorem ann121_s:ann121.imm=[1]∧ann121.frz=[]∧ann121.live=lv121∧ann121.head=[(3,[4,1,3])]:=⟨rfl,rfl,rfl,rfl⟩
@[go_sem] def lv122:List (Nat×List Nat):=[(7,[6]),(5,[7,4,2,0]),(6,[4,2,0,7]),(4,[4,2,7,0,24]),(3,[7,4,2,0]),(2,[4,2,0]),(1,[4,2,0]),(0,[4,2,0])]
def ann122:Ann:=⟨[4],[],lv122,[(4,[7,4,2,0])]⟩
@[go_sem] theorem ann122_s:ann122.imm=[4]∧ann122.frz=[]∧ann122.live=lv122∧ann122.head=[(4,[7,4,2,0])]:=⟨rfl,rfl,rfl,rfl⟩
@[go_sem] def lv123:List (Nat×List Nat):=[(7,[6]),(5,[7,4,2,0]),(6,[4,2,0,7]),(4,[4,2,7,0,27]),(3,[7,4,2,0]),(2,[6]),(1,[2,4,0,16]),(0,[2,4,0])]
def ann123:Ann:=⟨[4],[],lv123,[(4,[7,4,2,0])]⟩
@[go_sem] theorem ann123_s:ann123.imm=[4]∧ann123.frz=[]∧ann123.live=lv123∧ann123.head=[(4,[7,4,2,0])]:=⟨rfl,rfl,rfl,rfl⟩
@[go_sem] def lv124:List (Nat×List Nat):=[(16,[6,7]),(15,[43,8,2,1,41,42]),(14,[8,2,1,41,42,43]),(13,[6,7]),(12,[2,1,41,42,43,11,8,58]),(11,[2,1,41,42,43,11,8,12]),(10,[2,1,41,42,43,8,10]),(9,[2,1,41,42,43,8,44]),(8,[43,8,2,1,41,42]),(7,[8,2,1,3]),(6,[2,1,3,8,34]),(5,[2,1,3,8]),(4,[2,1,3,8,26]),(3,[2,1,3,8]),(2,[6,7]),(1,[2,1,3,23]),(0,[2,1,3])]
def ann124:Ann:=⟨[3],[],lv124,[(9,[43,8,2,1,41,42])]⟩
@[go_sem] theorem ann124_s:ann124.imm=[3]∧ann124.frz=[]∧ann124.live=lv124∧ann124.head=[(9,[43,8,2,1,41,42])]:=⟨rfl,rfl,rfl,rfl⟩
def ann125:Ann:=⟨[1],[],[(1,[2]),(0,[1])],[]⟩
@[go_sem] theorem ann125_s:ann125.imm=[1]∧ann125.frz=[]∧ann125.live=[(1,[2]),(0,[1])]∧ann125.head=[]:=⟨rfl,rfl,rfl,rfl⟩
@[go_sem] def lv130:List (Nat×List Nat):=[(5,[2]),(4,[2]),(3,[0,10]),(2,[2]),(1,[0,4]),(0,[0])]
def ann130:Ann:=⟨[],[],lv130,[]⟩
@[go_sem] theorem ann130_s:ann130.imm=[]∧ann130.frz=[]∧ann130.live=lv130∧ann130.head=[]:=⟨rfl,rfl,rfl,rfl⟩
def ann131:Ann:=⟨[1],[],[(1,[2]),(0,[1])],[]⟩
@[go_sem] theorem ann131_s:ann131.imm=[1]∧ann131.frz=[]∧ann131.live=[(1,[2]),(0,[1])]∧ann131.head=[]:=⟨rfl,rfl,rfl,rfl⟩
def ann132:Ann:=⟨[3,4],[],[(1,[5,6]),(0,[5,4,2,3])],[]⟩
@[go_sem] theorem ann132_s:ann132.imm=[3,4]∧ann132.frz=[]∧ann132.live=[(1,[5,6]),(0,[5,4,2,3])]∧ann132.head=[]:=⟨rfl,rfl,rfl,rfl⟩
@[go_sem] def lv133:List (Nat×List Nat):=[(9,[6,7]),(8,[6,7]),(7,[6,5,4,3,27]),(6,[6,5,4,3,8]),(5,[6,5,4,3,8]),(4,[6,7]),(3,[6,5,4,3,22]),(2,[6,7]),(1,[6,5,4,3,11]),(0,[6,5,4,3])]
def ann133:Ann:=⟨[3,4,5],[],lv133,[]⟩
@[go_sem] theorem ann133_s:ann133.imm=[3,4,5]∧ann133.frz=[]∧ann133.live=lv133∧ann133.head=[]:=⟨rfl,rfl,rfl,rfl⟩
@[go_sem] def lv134:List (Nat×List Nat):=[(3,[5,6]),(2,[5,0]),(1,[5,2,0,10]),(0,[5,2,0,4])]
def ann134:Ann:=⟨[4],[],lv134,[]⟩
@[go_sem] theorem ann134_s:ann134.imm=[4]∧ann134.frz=[]∧ann134.live=lv134∧ann134.head=[]:=⟨rfl,rfl,rfl,rfl⟩
@[go_sem] def lv135:List (Nat×List Nat):=[(10,[2]),(9,[2]),(8,[4]),(7,[4,3]),(6,[4,3]),(5,[4,3]),(4,[4,3]),(3,[4,3]),(2,[4,3]),(1,[3]),(0,[0])]
def ann135:Ann:=⟨[],[],lv135,[]⟩
@[go_sem] theorem ann135_s:ann135.imm=[]∧ann135.frz=[]∧ann135.live=lv135∧ann135.head=[]:=⟨rfl,rfl,rfl,rfl⟩
@[go_sem] def lv136:List (Nat×List Nat):=[(14,[6]),(3,[6,3]),(6,[6,3]),(8,[6,3]),(11,[6,3]),(10,[6,3,2]),(13,[6,3]),(12,[6,3,2,42]),(9,[6,3,2,8,30]),(7,[6,3,2,8,22]),(5,[6,3,2,8,15]),(4,[6,3,2,8,15]),(2,[6,3,2,8,9]),(1,[6,3,2,8]),(0,[6,3,2,4])]
def ann136:Ann:=⟨[4],[],lv136,[]⟩
@[go_sem] theorem ann136_s:ann136.imm=[4]∧ann136.frz=[]∧ann136.live=lv136∧ann136.head=[]:=⟨rfl,rfl,rfl,rfl⟩
@[go_sem] def lv137:List (Nat×List Nat):=[(7,[4]),(6,[8,0,1,7]),(5,[4]),(4,[5,0,1,7,8,16]),(3,[5,0,1,7,8]),(2,[0,1,7,8,9]),(1,[8,0,1,7]),(0,[0,1])]
def ann137:Ann:=⟨[],[],lv137,[(2,[8,0,1,7])]⟩
@[go_sem] theorem ann137_s:ann137.imm=[]∧ann137.frz=[]∧ann137.live=lv137∧ann137.head=[(2,[8,0,1,7])]:=⟨rfl,rfl,rfl,rfl⟩
@[go_sem] def lv138:List (Nat×List Nat):=[(7,[4]),(6,[8,0,1,7]),(5,[4]),(4,[5,0,1,7,8,16]),(3,[5,0,1,7,8]),(2,[0,1,7,8,9]),(1,[8,0,1,7]),(0,[0,1])]
def ann138:Ann:=⟨[],[],lv138,[(2,[8,0,1,7])]⟩
@[go_sem] theorem ann138_s:ann138.imm=[]∧ann138.frz=[]∧ann138.live=lv138∧ann138.head=[(2,[8,0,1,7])]:=⟨rfl,rfl,rfl,rfl⟩
@[go_sem] def lv139:List (Nat×List Nat):=[(11,[37,3,2,5,4,35,36]),(10,[3,2,5,4,35,36,37]),(9,[3,2,5,4,35,36,37,9,8]),(8,[3,2,5,4,35,36,37,38]),(7,[37,3,2,5,4,35,36]),(6,[3,2,5,4]),(5,[3,2,5,4,28]),(4,[3,2,5,4]),(3,[3,2,5,4,20]),(2,[3,2,5,4]),(1,[3,2,5,4,12]),(0,[3,2,5,4])]
def ann139:Ann:=⟨[4,5],[],lv139,[(8,[37,3,2,5,4,35,36])]⟩
@[go_sem] theorem ann139_s:ann139.imm=[4,5]∧ann139.frz=[]∧ann139.live=lv139∧ann139.head=[(8,[37,3,2,5,4,35,36])]:=⟨rfl,rfl,rfl,rfl⟩
@[go_sem] def lv140:List (Nat×List Nat):=[(7,[16,4,2,14,15]),(6,[4,2,14,15,16]),(5,[4,2,14,15,16,8,23]),(4,[4,2,14,15,16,8]),(3,[4,2,14,15,16,17]),(2,[16,4,2,14,15]),(1,[4,2,5]),(0,[4,2,3])]
def ann140:Ann:=⟨[3,4],[],lv140,[(3,[16,4,2,14,15])]⟩
@[go_sem] theorem ann140_s:ann140.imm=[3,4]∧ann140.frz=[]∧ann140.live=lv140∧ann140.head=[(3,[16,4,2,14,15])]:=⟨rfl,rfl,rfl,rfl⟩
def ann142:Ann:=⟨[4],[],[(2,[]),(1,[4,0,2,8]),(0,[4,0,2])],[]⟩
@[go_sem] theorem ann142_s:ann142.imm=[4]∧ann142.frz=[]∧ann142.live=[(2,[]),(1,[4,0,2,8]),(0,[4,0,2])]∧ann142.head=[]:=⟨rfl,rfl,rfl,rfl⟩
@[go_sem] def lv144:List (Nat×List Nat):=[(7,[4]),(6,[8,0,1,7]),(5,[4]),(4,[5,0,1,7,8,16]),(3,[5,0,1,7,8]),(2,[0,1,7,8,9]),(1,[8,0,1,7]),(0,[0,1])]
def ann144:Ann:=⟨[],[],lv144,[(2,[8,0,1,7])]⟩
@[go_sem] theorem ann144_s:ann144.imm=[]∧ann144.frz=[]∧ann144.live=lv144∧ann144.head=[(2,[8,0,1,7])]:=⟨rfl,rfl,rfl,rfl⟩
@[go_sem] def lv145:List (Nat×List Nat):=[(10,[2]),(3,[2]),(5,[2]),(7,[2]),(9,[2]),(8,[1,40]),(6,[1,4,25]),(4,[1,4,15]),(2,[1,4,5]),(1,[1,4]),(0,[1])]
def ann145:Ann:=⟨[1],[],lv145,[]⟩
@[go_sem] theorem ann145_s:ann145.imm=[1]∧ann145.frz=[]∧ann145.live=lv145∧ann145.head=[]:=⟨rfl,rfl,rfl,rfl⟩
@[go_sem] def lv146:List (Nat×List Nat):=[(7,[2]),(3,[2]),(6,[2]),(5,[1,11]),(4,[1,11,4]),(2,[1,4,5]),(1,[1,4]),(0,[1])]
def ann146:Ann:=⟨[1],[],lv146,[]⟩
@[go_sem] theorem ann146_s:ann146.imm=[1]∧ann146.frz=[]∧ann146.live=lv146∧ann146.head=[]:=⟨rfl,rfl,rfl,rfl⟩
@[go_sem] def lv147:List (Nat×List Nat):=[(6,[2]),(3,[3,0]),(5,[2]),(4,[0,3,15]),(2,[0,3,7]),(1,[3,0]),(0,[0])]
def ann147:Ann:=⟨[],[],lv147,[(2,[3,0])]⟩
@[go_sem] theorem ann147_s:ann147.imm=[]∧ann147.frz=[]∧ann147.live=lv147∧ann147.head=[(2,[3,0])]:=⟨rfl,rfl,rfl,rfl⟩
@[go_sem] def lv148:List (Nat×List Nat):=[(21,[2]),(6,[2]),(16,[2]),(20,[2]),(19,[19]),(18,[19,3]),(17,[19,3]),(15,[3,9]),(14,[3,9]),(13,[3,9]),(12,[3,9]),(11,[3,9]),(10,[3,9]),(9,[3,9]),(8,[3,9]),(7,[3,9]),(5,[3,4]),(4,[3,4]),(3,[3,4]),(2,[3,4]),(1,[3]),(0,[0])]
def ann148:Ann:=⟨[],[],lv148,[]⟩
@[go_sem] theorem ann148_s:ann148.imm=[]∧ann148.frz=[]∧ann148.live=lv148∧ann148.head=[]:=⟨rfl,rfl,rfl,rfl⟩
def ann149:Ann:=⟨[1],[],[(1,[2]),(0,[1])],[]⟩
@[go_sem] theorem ann149_s:ann149.imm=[1]∧ann149.frz=[]∧ann149.live=[(1,[2]),(0,[1])]∧ann149.head=[]:=⟨rfl,rfl,rfl,rfl⟩
def ann150:Ann:=⟨[1],[],[(1,[2]),(0,[1])],[]⟩
@[go_sem] theorem ann150_s:ann150.imm=[1]∧ann150.frz=[]∧ann150.live=[(1,[2]),(0,[1])]∧ann150.head=[]:=⟨rfl,rfl,rfl,rfl⟩
def ann151:Ann:=⟨[1],[],[(1,[2]),(0,[1])],[]⟩
@[go_sem] theorem ann151_s:ann151.imm=[1]∧ann151.frz=[]∧ann151.live=[(1,[2]),(0,[1])]∧ann151.head=[]:=⟨rfl,rfl,rfl,rfl⟩
@[go_sem] def lv152:List (Nat×List Nat):=[(6,[6]),(3,[7,2,1,0]),(5,[2,1,0,7]),(4,[2,1,7,0,19]),(2,[2,1,7,0,11]),(1,[7,2,1,0]),(0,[2,1,0])]
def ann152:Ann:=⟨[],[],lv152,[(2,[7,2,1,0])]⟩
@[go_sem] theorem ann152_s:ann152.imm=[]∧ann152.frz=[]∧ann152.live=lv152∧ann152.head=[(2,[7,2,1,0])]:=⟨rfl,rfl,rfl,rfl⟩
def ann153:Ann:=⟨[1],[],[(1,[2]),(0,[1])],[]⟩
@[go_sem] theorem ann153_s:ann153.imm=[1]∧ann153.frz=[]∧ann153.live=[(1,[2]),(0,[1])]∧ann153.head=[]:=⟨rfl,rfl,rfl,rfl⟩
def ann154:Ann:=⟨[2],[],[(3,[4]),(2,[4]),(1,[16]),(0,[1,2])],[]⟩
@[go_sem] theorem ann154_s:ann154.imm=[2]∧ann154.frz=[]∧ann154.live=[(3,[4]),(2,[4]),(1,[16]),(0,[1,2])]∧ann154.head=[]:=⟨rfl,rfl,rfl,rfl⟩
@[go_sem] def lv155:List (Nat×List Nat):=[(8,[4]),(7,[5,0,6]),(6,[5,0,1,6]),(5,[4]),(4,[0,5,1,32]),(3,[5,0,1]),(2,[0,1,5,18]),(1,[5,0,1]),(0,[0,1])]
def ann155:Ann:=⟨[],[],lv155,[(2,[5,0,1])]⟩
@[go_sem] theorem ann155_s:ann155.imm=[]∧ann155.frz=[]∧ann155.live=lv155∧ann155.head=[(2,[5,0,1])]:=⟨rfl,rfl,rfl,rfl⟩
@[go_sem] def lv156:List (Nat×List Nat):=[(10,[4]),(4,[4]),(9,[4]),(8,[15]),(7,[1,10]),(6,[1,10,6]),(5,[1,10,6]),(3,[1,6,7]),(2,[1,6,7]),(1,[1,6]),(0,[1,2])]
def ann156:Ann:=⟨[2],[],lv156,[]⟩
@[go_sem] theorem ann156_s:ann156.imm=[2]∧ann156.frz=[]∧ann156.live=lv156∧ann156.head=[]:=⟨rfl,rfl,rfl,rfl⟩
def ann157:Ann:=⟨[1],[],[(4,[2]),(3,[1,3]),(2,[2]),(1,[1,34]),(0,[1])],[]⟩
@[go_sem] theorem ann157_s:ann157.imm=[1]∧ann157.frz=[]∧ann157.live=[(4,[2]),(3,[1,3]),(2,[2]),(1,[1,34]),(0,[1])]∧ann157.head=[]:=⟨rfl,rfl,rfl,rfl⟩
@[go_sem] def lv158:List (Nat×List Nat):=[(7,[2]),(6,[9,3,7,8]),(5,[3,7,8,9]),(4,[7,8,9,5,3]),(3,[7,8,9,3,10]),(2,[9,3,7,8]),(1,[3,1]),(0,[1])]
def ann158:Ann:=⟨[1],[],lv158,[(3,[9,3,7,8])]⟩
@[go_sem] theorem ann158_s:ann158.imm=[1]∧ann158.frz=[]∧ann158.live=lv158∧ann158.head=[(3,[9,3,7,8])]:=⟨rfl,rfl,rfl,rfl⟩
@[go_sem] def lv163:List (Nat×List Nat):=[(9,[2]),(8,[15,13,14]),(7,[2]),(6,[13,14,15,21]),(5,[13,14,15,4]),(4,[13,14,15,16]),(3,[15,13,14]),(2,[2]),(1,[0,11]),(0,[0])]
def ann163:Ann:=⟨[],[],lv163,[(4,[15,13,14])]⟩
@[go_sem] theorem ann163_s:ann163.imm=[]∧ann163.frz=[]∧ann163.live=lv163∧ann163.head=[(4,[15,13,14])]:=⟨rfl,rfl,rfl,rfl⟩
@[go_sem] def lv166:List (Nat×List Nat):=[(6,[2]),(3,[3,0]),(5,[2]),(4,[0,3,20]),(2,[0,3,7]),(1,[3,0]),(0,[0])]
def ann166:Ann:=⟨[],[],lv166,[(2,[3,0])]⟩
@[go_sem] theorem ann166_s:ann166.imm=[]∧ann166.frz=[]∧ann166.live=lv166∧ann166.head=[(2,[3,0])]:=⟨rfl,rfl,rfl,rfl⟩
def ann167:Ann:=⟨[1],[],[(1,[2]),(0,[1])],[]⟩
@[go_sem] theorem ann167_s:ann167.imm=[1]∧ann167.frz=[]∧ann167.live=[(1,[2]),(0,[1])]∧ann167.head=[]:=⟨rfl,rfl,rfl,rfl⟩
@[go_sem] def lv168:List (Nat×List Nat):=[(9,[27,2,1,25,26]),(8,[2,1,25,26,27]),(7,[2,1,25,26,27,7]),(6,[2,1,25,26,27,28]),(5,[27,2,1,25,26]),(4,[2,1,3]),(3,[2,3,1,21]),(2,[2,3,1]),(1,[2,3,1,15]),(0,[2,3,1])]
def ann168:Ann:=⟨[3],[],lv168,[(6,[27,2,1,25,26])]⟩
@[go_sem] theorem ann168_s:ann168.imm=[3]∧ann168.frz=[]∧ann168.live=lv168∧ann168.head=[(6,[27,2,1,25,26])]:=⟨rfl,rfl,rfl,rfl⟩
@[go_sem] def lv169:List (Nat×List Nat):=[(3,[]),(2,[4,26]),(1,[4,2,3,7,5]),(0,[4,2,3,5,1])]
def ann169:Ann:=⟨[5],[],lv169,[]⟩
@[go_sem] theorem ann169_s:ann169.imm=[5]∧ann169.frz=[]∧ann169.live=lv169∧ann169.head=[]:=⟨rfl,rfl,rfl,rfl⟩
def ann171:Ann:=⟨[2,3],[],[(1,[4]),(0,[3,2])],[]⟩
@[go_sem] theorem ann171_s:ann171.imm=[2,3]∧ann171.frz=[]∧ann171.live=[(1,[4]),(0,[3,2])]∧ann171.head=[]:=⟨rfl,rfl,rfl,rfl⟩
def ann173:Ann:=⟨[],[],[(1,[]),(0,[2,0])],[]⟩
@[go_sem] theorem ann173_s:ann173.imm=[]∧ann173.frz=[]∧ann173.live=[(1,[]),(0,[2,0])]∧ann173.head=[]:=⟨rfl,rfl,rfl,rfl⟩
@[go_sem] def lv174:List (Nat×List Nat):=[(16,[2]),(5,[3,0]),(15,[2]),(14,[3,0]),(10,[5,3,4,0]),(13,[3,4,0,5]),(12,[4,0,5,3]),(11,[4,0,5,3,44]),(9,[4,0,5,3,32]),(8,[5,3,4,0]),(7,[3,4,0]),(6,[3,0,25]),(4,[3,0,13]),(3,[3,0]),(2,[2]),(1,[0,8]),(0,[0])]
def ann174:Ann:=⟨[],[],lv174,[(9,[5,3,4,0]),(4,[3,0])]⟩
@[go_sem] theorem ann174_s:ann174.imm=[]∧ann174.frz=[]∧ann174.live=lv174∧ann174.head=[(9,[5,3,4,0]),(4,[3,0])]:=⟨rfl,rfl,rfl,rfl⟩
@[go_sem] def lv175:List (Nat×List Nat):=[(18,[2]),(6,[2]),(17,[2]),(16,[9]),(15,[9,3]),(14,[9,3]),(13,[9,3]),(12,[9,3]),(11,[9,3]),(10,[9,3]),(9,[9,3]),(8,[9,3]),(7,[9,3]),(5,[3,4]),(4,[3,4]),(3,[3,4]),(2,[3,4]),(1,[3]),(0,[0])]
def ann175:Ann:=⟨[],[],lv175,[]⟩
@[go_sem] theorem ann175_s:ann175.imm=[]∧ann175.frz=[]∧ann175.live=lv175∧ann175.head=[]:=⟨rfl,rfl,rfl,rfl⟩
@[go_sem] def lv176:List (Nat×List Nat):=[(6,[2]),(3,[3,0]),(5,[2]),(4,[0,3,19]),(2,[0,3,7]),(1,[3,0]),(0,[0])]
def ann176:Ann:=⟨[],[],lv176,[(2,[3,0])]⟩
@[go_sem] theorem ann176_s:ann176.imm=[]∧ann176.frz=[]∧ann176.live=lv176∧ann176.head=[(2,[3,0])]:=⟨rfl,rfl,rfl,rfl⟩
@[go_sem] def lv177:List (Nat×List Nat):=[(8,[6]),(6,[7,2,1,3]),(7,[2,1,3,7]),(5,[2,3,7,1,36]),(4,[7,2,1,3]),(3,[2,1,3]),(2,[6]),(1,[2,3,1,25]),(0,[2,3,1])]
def ann177:Ann:=⟨[3],[],lv177,[(5,[7,2,1,3])]⟩
@[go_sem] theorem ann177_s:ann177.imm=[3]∧ann177.frz=[]∧ann177.live=lv177∧ann177.head=[(5,[7,2,1,3])]:=⟨rfl,rfl,rfl,rfl⟩
def ann178:Ann:=⟨[1],[],[(1,[2]),(0,[1])],[]⟩
@[go_sem] theorem ann178_s:ann178.imm=[1]∧ann178.frz=[]∧ann178.live=[(1,[2]),(0,[1])]∧ann178.head=[]:=⟨rfl,rfl,rfl,rfl⟩
@[go_sem] def lv179:List (Nat×List Nat):=[(8,[2]),(5,[3,1]),(7,[2]),(6,[1,3,20]),(4,[1,3,11]),(3,[3,1]),(2,[2]),(1,[1,6]),(0,[1])]
def ann179:Ann:=⟨[1],[],lv179,[(4,[3,1])]⟩
@[go_sem] theorem ann179_s:ann179.imm=[1]∧ann179.frz=[]∧ann179.live=lv179∧ann179.head=[(4,[3,1])]:=⟨rfl,rfl,rfl,rfl⟩
@[go_sem] def lv180:List (Nat×List Nat):=[(7,[6]),(5,[7,2,4,0]),(6,[2,4,0,7]),(4,[2,4,7,0,27]),(3,[7,2,4,0]),(2,[6]),(1,[2,4,0,16]),(0,[2,4,0])]
def ann180:Ann:=⟨[4],[],lv180,[(4,[7,2,4,0])]⟩
@[go_sem] theorem ann180_s:ann180.imm=[4]∧ann180.frz=[]∧ann180.live=lv180∧ann180.head=[(4,[7,2,4,0])]:=⟨rfl,rfl,rfl,rfl⟩
@[go_sem] def lv181:List (Nat×List Nat):=[(10,[2]),(3,[2]),(5,[2]),(7,[2]),(9,[2]),(8,[1,35]),(6,[1,4,25]),(4,[1,4,15]),(2,[1,4,5]),(1,[1,4]),(0,[1])]
def ann181:Ann:=⟨[1],[],lv181,[]⟩
@[go_sem] theorem ann181_s:ann181.imm=[1]∧ann181.frz=[]∧ann181.live=lv181∧ann181.head=[]:=⟨rfl,rfl,rfl,rfl⟩
@[go_sem] def lv182:List (Nat×List Nat):=[(27,[2]),(6,[2]),(16,[2]),(20,[2]),(22,[2]),(24,[2]),(26,[2]),(25,[1,35]),(23,[1,4,29]),(21,[1,4,24]),(19,[1,4,20]),(18,[1,4,20]),(17,[1,4,20]),(15,[1,4,10]),(14,[1,4,10]),(13,[1,4,10]),(12,[1,4,10]),(11,[1,4,10]),(10,[1,4,10]),(9,[1,4,10]),(8,[1,4,10]),(7,[1,4,10]),(5,[1,4,5]),(4,[1,4,5]),(3,[1,4,5]),(2,[1,4,5]),(1,[1,4]),(0,[1])]
def ann182:Ann:=⟨[1],[],lv182,[]⟩
@[go_sem] theorem ann182_s:ann182.imm=[1]∧ann182.frz=[]∧ann182.live=lv182∧ann182.head=[]:=⟨rfl,rfl,rfl,rfl⟩
@[go_sem] def lv183:List (Nat×List Nat):=[(7,[2]),(3,[2]),(6,[2]),(5,[1,11]),(4,[1,11,4]),(2,[1,4,5]),(1,[1,4]),(0,[1])]
def ann183:Ann:=⟨[1],[],lv183,[]⟩
@[go_sem] theorem ann183_s:ann183.imm=[1]∧ann183.frz=[]∧ann183.live=lv183∧ann183.head=[]:=⟨rfl,rfl,rfl,rfl⟩
@[go_sem] def lv184:List (Nat×List Nat):=[(5,[2]),(2,[2]),(4,[2]),(3,[1,16]),(1,[1,3]),(0,[1])]
def ann184:Ann:=⟨[1],[],lv184,[]⟩
@[go_sem] theorem ann184_s:ann184.imm=[1]∧ann184.frz=[]∧ann184.live=lv184∧ann184.head=[]:=⟨rfl,rfl,rfl,rfl⟩
def ann185:Ann:=⟨[1],[],[(2,[2]),(1,[4]),(0,[1])],[]⟩
@[go_sem] theorem ann185_s:ann185.imm=[1]∧ann185.frz=[]∧ann185.live=[(2,[2]),(1,[4]),(0,[1])]∧ann185.head=[]:=⟨rfl,rfl,rfl,rfl⟩
def ann186:Ann:=⟨[2],[],[(3,[4]),(2,[4]),(1,[2,5]),(0,[2,1])],[]⟩
@[go_sem] theorem ann186_s:ann186.imm=[2]∧ann186.frz=[]∧ann186.live=[(3,[4]),(2,[4]),(1,[2,5]),(0,[2,1])]∧ann186.head=[]:=⟨rfl,rfl,rfl,rfl⟩
@[go_sem] def lv187:List (Nat×List Nat):=[(6,[2]),(3,[3,0]),(5,[2]),(4,[0,3,19]),(2,[0,3,7]),(1,[3,0]),(0,[0])]
def ann187:Ann:=⟨[],[],lv187,[(2,[3,0])]⟩
@[go_sem] theorem ann187_s:ann187.imm=[]∧ann187.frz=[]∧ann187.live=lv187∧ann187.head=[(2,[3,0])]:=⟨rfl,rfl,rfl,rfl⟩
@[go_sem] def lv189:List (Nat×List Nat):=[(11,[2]),(2,[2]),(4,[2]),(6,[2]),(8,[2]),(10,[2]),(9,[27]),(7,[0,24]),(5,[0,17]),(3,[0,10]),(1,[0,3]),(0,[0])]
def ann189:Ann:=⟨[],[],lv189,[]⟩
@[go_sem] theorem ann189_s:ann189.imm=[]∧ann189.frz=[]∧ann189.live=lv189∧ann189.head=[]:=⟨rfl,rfl,rfl,rfl⟩
def ann194:Ann:=⟨[],[],[(1,[2]),(0,[0])],[]⟩
@[go_sem] theorem ann194_s:ann194.imm=[]∧ann194.frz=[]∧ann194.live=[(1,[2]),(0,[0])]∧ann194.head=[]:=⟨rfl,rfl,rfl,rfl⟩
@[go_sem] def lv195:List (Nat×List Nat):=[(7,[2]),(6,[9,3,7,8]),(5,[3,7,8,9]),(4,[7,8,9,5,3]),(3,[7,8,9,3,10]),(2,[9,3,7,8]),(1,[3,1]),(0,[1])]
def ann195:Ann:=⟨[1],[],lv195,[(3,[9,3,7,8])]⟩
@[go_sem] theorem ann195_s:ann195.imm=[1]∧ann195.frz=[]∧ann195.live=lv195∧ann195.head=[(3,[9,3,7,8])]:=⟨rfl,rfl,rfl,rfl⟩
@[go_sem] def lv196:List (Nat×List Nat):=[(17,[2]),(16,[2]),(15,[1,95]),(14,[2]),(13,[1,69]),(12,[1,3]),(11,[2]),(10,[1,44]),(9,[2]),(8,[1,25]),(5,[2]),(4,[1,14]),(7,[1,15]),(6,[1,15,11]),(3,[1,11]),(2,[2]),(1,[1,9]),(0,[1])]
def ann196:Ann:=⟨[1],[],lv196,[]⟩
@[go_sem] theorem ann196_s:ann196.imm=[1]∧ann196.frz=[]∧ann196.live=lv196∧ann196.head=[]:=⟨rfl,rfl,rfl,rfl⟩
def ann197:Ann:=⟨[1],[],[(1,[2]),(0,[1])],[]⟩
@[go_sem] theorem ann197_s:ann197.imm=[1]∧ann197.frz=[]∧ann197.live=[(1,[2]),(0,[1])]∧ann197.head=[]:=⟨rfl,rfl,rfl,rfl⟩
@[go_sem] def lv198:List (Nat×List Nat):=[(17,[6]),(16,[72,8,2,0,70,6,71]),(15,[8,2,0,70,6,71,72]),(14,[8,2,0,70,6,71,72,10]),(13,[8,2,0,70,6,71,72,73]),(12,[72,8,2,0,70,6,71]),(11,[8,2,0,6,4]),(10,[8,0,6,4,2,66]),(9,[8,0,6,4,2]),(8,[0,6,4,2]),(7,[6]),(6,[6,7]),(5,[6,7,0]),(4,[6,0,2,4,27]),(3,[6]),(2,[6]),(1,[6,0,2,4,15]),(0,[6,0,2,4])]
def ann198:Ann:=⟨[4],[],lv198,[(13,[72,8,2,0,70,6,71])]⟩
@[go_sem] theorem ann198_s:ann198.imm=[4]∧ann198.frz=[]∧ann198.live=lv198∧ann198.head=[(13,[72,8,2,0,70,6,71])]:=⟨rfl,rfl,rfl,rfl⟩
@[go_sem] def lv199:List (Nat×List Nat):=[(3,[6]),(2,[6]),(1,[6,3,4,17]),(0,[6,3,4,2,1])]
def ann199:Ann:=⟨[4],[],lv199,[]⟩
@[go_sem] theorem ann199_s:ann199.imm=[4]∧ann199.frz=[]∧ann199.live=lv199∧ann199.head=[]:=⟨rfl,rfl,rfl,rfl⟩
def ann200:Ann:=⟨[],[],[(1,[2]),(0,[2,0])],[]⟩
@[go_sem] theorem ann200_s:ann200.imm=[]∧ann200.frz=[]∧ann200.live=[(1,[2]),(0,[2,0])]∧ann200.head=[]:=⟨rfl,rfl,rfl,rfl⟩
def ann201:Ann:=⟨[1],[],[(1,[2]),(0,[2,1])],[]⟩
@[go_sem] theorem ann201_s:ann201.imm=[1]∧ann201.frz=[]∧ann201.live=[(1,[2]),(0,[2,1])]∧ann201.head=[]:=⟨rfl,rfl,rfl,rfl⟩
@[go_sem] def lv202:List (Nat×List Nat):=[(27,[2,1,0,9,8,3]),(26,[2,0,9,8,3,14]),(25,[2,0,9,8,3,14,1]),(30,[2,1,0,9,8,3]),(29,[1,0,9,8,3,14]),(28,[1,0,9,8,3,14,2]),(24,[2,0,9,3,14,1,18,16,17,113]),(23,[2,0,9,3,14,1,18,16,17]),(22,[2,0,9,3,14,1,16,17,10]),(21,[2,0,9,3,14,1,10]),(20,[2,0,3,14,1,10,15]),(19,[2,1,0,9,8,3]),(18,[2,0,9,8,3,13]),(17,[2,0,9,8,3,11,1,10,87]),(16,[2,0,9,8,3,11,1,10,72]),(15,[2,0,9,8,3,11,1,10,68]),(14,[2,0,9,8,3,11,1,10,12]),(13,[2,0,9,8,3,11,1,10]),(12,[2,0,9,8,3,1,10,11]),(11,[2,0,9,8,3,1,10,11,12,50]),(10,[2,0,9,8,3,1,10,11,12]),(9,[2,0,9,8,3,1,10]),(8,[2,0,9,8,1,10,3]),(7,[2,0,9,8,1,10,3,35]),(6,[]),(5,[2,1,0,9,8,10,3,29]),(4,[]),(3,[2,1,0,9,8,10,3,23]),(2,[2,1,0,9,8,10,3]),(1,[2,1,0,9,8,3]),(0,[2,1,0,8,3])]
def ann202:Ann:=⟨[],[],lv202,[(1,[2,1,0,9,8,3])]⟩
@[go_sem] theorem ann202_s:ann202.imm=[]∧ann202.frz=[]∧ann202.live=lv202∧ann202.head=[(1,[2,1,0,9,8,3])]:=⟨rfl,rfl,rfl,rfl⟩
def ann203:Ann:=⟨[],[],[(2,[2]),(1,[2]),(0,[0])],[]⟩
@[go_sem] theorem ann203_s:ann203.imm=[]∧ann203.frz=[]∧ann203.live=[(2,[2]),(1,[2]),(0,[0])]∧ann203.head=[]:=⟨rfl,rfl,rfl,rfl⟩
@[go_sem] def lv204:List (Nat×List Nat):=[(8,[6]),(6,[8,2,7,1,3]),(7,[2,7,1,3,8]),(5,[2,1,3,8,7,21]),(4,[8,2,7,1,3]),(3,[2,7,1,3]),(2,[6]),(1,[1,2,3,10]),(0,[1,2,3])]
def ann204:Ann:=⟨[3],[],lv204,[(5,[8,2,7,1,3])]⟩
@[go_sem] theorem ann204_s:ann204.imm=[3]∧ann204.frz=[]∧ann204.live=lv204∧ann204.head=[(5,[8,2,7,1,3])]:=⟨rfl,rfl,rfl,rfl⟩
@[go_sem] def lv205:List (Nat×List Nat):=[(15,[2]),(14,[2]),(13,[1,94]),(12,[2]),(11,[1,86]),(8,[2]),(7,[1,64]),(10,[2]),(9,[1,67]),(6,[1,56]),(5,[2]),(4,[1,48]),(3,[1,3]),(2,[2]),(1,[1,11]),(0,[1])]
def ann205:Ann:=⟨[1],[],lv205,[]⟩
@[go_sem] theorem ann205_s:ann205.imm=[1]∧ann205.frz=[]∧ann205.live=lv205∧ann205.head=[]:=⟨rfl,rfl,rfl,rfl⟩
@[go_sem] def lv206:List (Nat×List Nat):=[(13,[4]),(12,[5]),(11,[1,5,42]),(5,[7,0,1,5,6]),(10,[0,1,5,6,7]),(9,[0,1,6,7,5,33]),(8,[0,1,6,7,5]),(7,[0,1,7,5]),(6,[0,1,7,5,6,23]),(4,[0,1,7,5,6,11]),(3,[7,0,1,5,6]),(2,[0,1,5,6]),(1,[0,1,5]),(0,[0,1])]
def ann206:Ann:=⟨[],[],lv206,[(4,[7,0,1,5,6])]⟩
@[go_sem] theorem ann206_s:ann206.imm=[]∧ann206.frz=[]∧ann206.live=lv206∧ann206.head=[(4,[7,0,1,5,6])]:=⟨rfl,rfl,rfl,rfl⟩
def ann207:Ann:=⟨[2],[],[(3,[4]),(2,[4]),(1,[1,7]),(0,[1,2])],[]⟩
@[go_sem] theorem ann207_s:ann207.imm=[2]∧ann207.frz=[]∧ann207.live=[(3,[4]),(2,[4]),(1,[1,7]),(0,[1,2])]∧ann207.head=[]:=⟨rfl,rfl,rfl,rfl⟩
@[go_sem] def lv208:List (Nat×List Nat):=[(7,[2]),(6,[2]),(5,[4]),(4,[4,3]),(3,[4,3]),(2,[4,3]),(1,[3]),(0,[0])]
def ann208:Ann:=⟨[],[],lv208,[]⟩
@[go_sem] theorem ann208_s:ann208.imm=[]∧ann208.frz=[]∧ann208.live=lv208∧ann208.head=[]:=⟨rfl,rfl,rfl,rfl⟩
def ann209:Ann:=⟨[],[],[(1,[2]),(0,[0])],[]⟩
@[go_sem] theorem ann209_s:ann209.imm=[]∧ann209.frz=[]∧ann209.live=[(1,[2]),(0,[0])]∧ann209.head=[]:=⟨rfl,rfl,rfl,rfl⟩
@[go_sem] def lv210:List (Nat×List Nat):=[(12,[6,7]),(11,[34,8,2,1,32,33]),(10,[8,2,1,32,33,34]),(9,[6,7]),(8,[2,1,32,33,34,11,8,49]),(7,[2,1,32,33,34,11,8,12]),(6,[2,1,32,33,34,8,10]),(5,[2,1,32,33,34,8,35]),(4,[34,8,2,1,32,33]),(3,[8,2,1,3]),(2,[6,7]),(1,[2,1,3,30]),(0,[2,1,3])]
def ann210:Ann:=⟨[3],[],lv210,[(5,[34,8,2,1,32,33])]⟩
@[go_sem] theorem ann210_s:ann210.imm=[3]∧ann210.frz=[]∧ann210.live=lv210∧ann210.head=[(5,[34,8,2,1,32,33])]:=⟨rfl,rfl,rfl,rfl⟩
def ann211:Ann:=⟨[1],[],[(1,[2]),(0,[1])],[]⟩
@[go_sem] theorem ann211_s:ann211.imm=[1]∧ann211.frz=[]∧ann211.live=[(1,[2]),(0,[1])]∧ann211.head=[]:=⟨rfl,rfl,rfl,rfl⟩
def ann217:Ann:=⟨[],[],[(1,[2]),(0,[0])],[]⟩
@[go_sem] theorem ann217_s:ann217.imm=[]∧ann217.frz=[]∧ann217.live=[(1,[2]),(0,[0])]∧ann217.head=[]:=⟨rfl,rfl,rfl,rfl⟩
def ann218:Ann:=⟨[],[],[(1,[2]),(0,[0])],[]⟩
@[go_sem] theorem ann218_s:ann218.imm=[]∧ann218.frz=[]∧ann218.live=[(1,[2]),(0,[0])]∧ann218.head=[]:=⟨rfl,rfl,rfl,rfl⟩
def ann219:Ann:=⟨[],[],[(1,[2]),(0,[0])],[]⟩
@[go_sem] theorem ann219_s:ann219.imm=[]∧ann219.frz=[]∧ann219.live=[(1,[2]),(0,[0])]∧ann219.head=[]:=⟨rfl,rfl,rfl,rfl⟩
@[go_sem] def lv220:List (Nat×List Nat):=[(9,[2]),(2,[2]),(4,[2]),(6,[2]),(8,[2]),(7,[21]),(5,[1,18]),(3,[1,12]),(1,[1,3]),(0,[1])]
def ann220:Ann:=⟨[1],[],lv220,[]⟩
@[go_sem] theorem ann220_s:ann220.imm=[1]∧ann220.frz=[]∧ann220.live=lv220∧ann220.head=[]:=⟨rfl,rfl,rfl,rfl⟩
def ann221:Ann:=⟨[],[],[(3,[2]),(2,[7,3,0,5]),(1,[3,0,5,4]),(0,[0])],[]⟩
@[go_sem] theorem ann221_s:ann221.imm=[]∧ann221.frz=[]∧ann221.live=[(3,[2]),(2,[7,3,0,5]),(1,[3,0,5,4]),(0,[0])]∧ann221.head=[]:=⟨rfl,rfl,rfl,rfl⟩
def ann222:Ann:=⟨[1],[],[(1,[2]),(0,[1])],[]⟩
@[go_sem] theorem ann222_s:ann222.imm=[1]∧ann222.frz=[]∧ann222.live=[(1,[2]),(0,[1])]∧ann222.head=[]:=⟨rfl,rfl,rfl,rfl⟩
def ann223:Ann:=⟨[],[],[(1,[2]),(0,[0])],[]⟩
@[go_sem] theorem ann223_s:ann223.imm=[]∧ann223.frz=[]∧ann223.live=[(1,[2]),(0,[0])]∧ann223.head=[]:=⟨rfl,rfl,rfl,rfl⟩
def ann224:Ann:=⟨[1],[],[(1,[2]),(0,[1])],[]⟩
@[go_sem] theorem ann224_s:ann224.imm=[1]∧ann224.frz=[]∧ann224.live=[(1,[2]),(0,[1])]∧ann224.head=[]:=⟨rfl,rfl,rfl,rfl⟩
@[go_sem] def lv225:List (Nat×List Nat):=[(7,[2]),(6,[9,3,7,2,8]),(5,[3,7,2,8,9]),(4,[3,7,2,8,9,5]),(3,[3,7,2,8,9,10]),(2,[9,3,7,2,8]),(1,[3,2,1]),(0,[2,1])]
def ann225:Ann:=⟨[1],[],lv225,[(3,[9,3,7,2,8])]⟩
@[go_sem] theorem ann225_s:ann225.imm=[1]∧ann225.frz=[]∧ann225.live=lv225∧ann225.head=[(3,[9,3,7,2,8])]:=⟨rfl,rfl,rfl,rfl⟩
@[go_sem] def lv226:List (Nat×List Nat):=[(2,[0,6,1,2]),(5,[7,0,1,2,6]),(6,[0,1,2,6,7]),(4,[0,1,2,6,7,30]),(3,[7,0,1,2,6]),(1,[0,1,2,6,12]),(0,[0,6,1,2])]
def ann226:Ann:=⟨[],[],lv226,[(4,[7,0,1,2,6]),(1,[0,6,1,2])]⟩
@[go_sem] theorem ann226_s:ann226.imm=[]∧ann226.frz=[]∧ann226.live=lv226∧ann226.head=[(4,[7,0,1,2,6]),(1,[0,6,1,2])]:=⟨rfl,rfl,rfl,rfl⟩
@[go_sem] def lv236:List (Nat×List Nat):=[(7,[2]),(6,[2]),(5,[16]),(4,[2]),(3,[0,14]),(2,[2]),(1,[0,8]),(0,[0])]
def ann236:Ann:=⟨[],[],lv236,[]⟩
@[go_sem] theorem ann236_s:ann236.imm=[]∧ann236.frz=[]∧ann236.live=lv236∧ann236.head=[]:=⟨rfl,rfl,rfl,rfl⟩
@[go_sem] def lv237:List (Nat×List Nat):=[(6,[2]),(3,[3,0]),(5,[2]),(4,[0,3,15]),(2,[0,3,7]),(1,[3,0]),(0,[0])]
def ann237:Ann:=⟨[],[],lv237,[(2,[3,0])]⟩
@[go_sem] theorem ann237_s:ann237.imm=[]∧ann237.frz=[]∧ann237.live=lv237∧ann237.head=[(2,[3,0])]:=⟨rfl,rfl,rfl,rfl⟩
@[go_sem] def lv238:List (Nat×List Nat):=[(9,[2]),(5,[3,0]),(8,[2]),(7,[5,3,0]),(6,[3,0,18]),(4,[3,0,12]),(3,[3,0]),(2,[2]),(1,[0,8]),(0,[0])]
def ann238:Ann:=⟨[],[],lv238,[(4,[3,0])]⟩
@[go_sem] theorem ann238_s:ann238.imm=[]∧ann238.frz=[]∧ann238.live=lv238∧ann238.head=[(4,[3,0])]:=⟨rfl,rfl,rfl,rfl⟩
def ann239:Ann:=⟨[],[],[(1,[2]),(0,[0])],[]⟩
@[go_sem] theorem ann239_s:ann239.imm=[]∧ann239.frz=[]∧ann239.live=[(1,[2]),(0,[0])]∧ann239.head=[]:=⟨rfl,rfl,rfl,rfl⟩
def ann240:Ann:=⟨[2,3],[],[(1,[4]),(0,[3,2])],[]⟩
@[go_sem] theorem ann240_s:ann240.imm=[2,3]∧ann240.frz=[]∧ann240.live=[(1,[4]),(0,[3,2])]∧ann240.head=[]:=⟨rfl,rfl,rfl,rfl⟩
def ann243:Ann:=⟨[],[],[(1,[4,5,6]),(0,[1,0])],[]⟩
@[go_sem] theorem ann243_s:ann243.imm=[]∧ann243.frz=[]∧ann243.live=[(1,[4,5,6]),(0,[1,0])]∧ann243.head=[]:=⟨rfl,rfl,rfl,rfl⟩
@[go_sem] def lv244:List (Nat×List Nat):=[(12,[2,3]),(11,[2,3]),(10,[6,41]),(9,[6,7]),(8,[23,21,0,22]),(7,[2,3]),(6,[21,0,22,23,29]),(5,[21,0,22,23,5]),(4,[21,0,22,23,24]),(3,[23,21,0,22]),(2,[2,3]),(1,[0,19]),(0,[0])]
def ann244:Ann:=⟨[],[],lv244,[(4,[23,21,0,22])]⟩
@[go_sem] theorem ann244_s:ann244.imm=[]∧ann244.frz=[]∧ann244.live=lv244∧ann244.head=[(4,[23,21,0,22])]:=⟨rfl,rfl,rfl,rfl⟩
def ann245:Ann:=⟨[],[],[(1,[2]),(0,[0])],[]⟩
@[go_sem] theorem ann245_s:ann245.imm=[]∧ann245.frz=[]∧ann245.live=[(1,[2]),(0,[0])]∧ann245.head=[]:=⟨rfl,rfl,rfl,rfl⟩
@[go_sem] def lv252:List (Nat×List Nat):=[(12,[2,3]),(11,[2,3]),(10,[4,40]),(6,[5,0,4]),(9,[0,4,5]),(8,[2,3]),(7,[0,5,4,29]),(5,[0,5,4,22]),(4,[5,0,4]),(3,[0,4]),(2,[2,3]),(1,[0,18]),(0,[0])]
def ann252:Ann:=⟨[],[],lv252,[(5,[5,0,4])]⟩
@[go_sem] theorem ann252_s:ann252.imm=[]∧ann252.frz=[]∧ann252.live=lv252∧ann252.head=[(5,[5,0,4])]:=⟨rfl,rfl,rfl,rfl⟩
def ann253:Ann:=⟨[],[],[(1,[2]),(0,[0])],[]⟩
@[go_sem] theorem ann253_s:ann253.imm=[]∧ann253.frz=[]∧ann253.live=[(1,[2]),(0,[0])]∧ann253.head=[]:=⟨rfl,rfl,rfl,rfl⟩
def ann254:Ann:=⟨[2,3],[],[(1,[4]),(0,[3,2])],[]⟩
@[go_sem] theorem ann254_s:ann254.imm=[2,3]∧ann254.frz=[]∧ann254.live=[(1,[4]),(0,[3,2])]∧ann254.head=[]:=⟨rfl,rfl,rfl,rfl⟩
@[go_sem] def lv255:List (Nat×List Nat):=[(10,[6]),(9,[17,2,1,15,16]),(8,[6]),(7,[2,1,15,16,17,30]),(6,[2,1,15,16,17,9,8]),(5,[2,1,15,16,17,8,7]),(4,[2,1,15,16,17,18]),(3,[17,2,1,15,16]),(2,[6]),(1,[2,1,0,14]),(0,[2,1,0])]
def ann255:Ann:=⟨[],[],lv255,[(4,[17,2,1,15,16])]⟩
@[go_sem] theorem ann255_s:ann255.imm=[]∧ann255.frz=[]∧ann255.live=lv255∧ann255.head=[(4,[17,2,1,15,16])]:=⟨rfl,rfl,rfl,rfl⟩
@[go_sem] def lv256:List (Nat×List Nat):=[(4,[4,5,6]),(3,[4,5,6]),(2,[1,7,0,12]),(1,[1,7,0]),(0,[1,0])]
def ann256:Ann:=⟨[],[],lv256,[]⟩
@[go_sem] theorem ann256_s:ann256.imm=[]∧ann256.frz=[]∧ann256.live=lv256∧ann256.head=[]:=⟨rfl,rfl,rfl,rfl⟩
@[go_sem] def lv258:List (Nat×List Nat):=[(10,[4]),(9,[25,23,24]),(8,[4]),(7,[23,24,25,36]),(6,[23,24,25,7]),(5,[23,24,25,6]),(4,[23,24,25,26]),(3,[25,23,24]),(2,[4]),(1,[0,21]),(0,[0,1])]
def ann258:Ann:=⟨[],[],lv258,[(4,[25,23,24])]⟩
@[go_sem] theorem ann258_s:ann258.imm=[]∧ann258.frz=[]∧ann258.live=lv258∧ann258.head=[(4,[25,23,24])]:=⟨rfl,rfl,rfl,rfl⟩
def ann260:Ann:=⟨[],[],[(1,[2]),(0,[0])],[]⟩
@[go_sem] theorem ann260_s:ann260.imm=[]∧ann260.frz=[]∧ann260.live=[(1,[2]),(0,[0])]∧ann260.head=[]:=⟨rfl,rfl,rfl,rfl⟩
@[go_sem] def lv261:List (Nat×List Nat):=[(10,[6]),(9,[17,2,1,15,16]),(8,[6]),(7,[2,1,15,16,17,30]),(6,[2,1,15,16,17,9,8]),(5,[2,1,15,16,17,8,7]),(4,[2,1,15,16,17,18]),(3,[17,2,1,15,16]),(2,[6]),(1,[2,1,0,14]),(0,[2,1,0])]
def ann261:Ann:=⟨[],[],lv261,[(4,[17,2,1,15,16])]⟩
@[go_sem] theorem ann261_s:ann261.imm=[]∧ann261.frz=[]∧ann261.live=lv261∧ann261.head=[(4,[17,2,1,15,16])]:=⟨rfl,rfl,rfl,rfl⟩
@[go_sem] def lv265:List (Nat×List Nat):=[(6,[2]),(3,[3,0]),(5,[2]),(4,[0,3,14]),(2,[0,3,7]),(1,[3,0]),(0,[0])]
def ann265:Ann:=⟨[],[],lv265,[(2,[3,0])]⟩
@[go_sem] theorem ann265_s:ann265.imm=[]∧ann265.frz=[]∧ann265.live=lv265∧ann265.head=[(2,[3,0])]:=⟨rfl,rfl,rfl,rfl⟩
theorem wf {f:FuncId}{fn:Func}{c:Code}{rv:List ResultVar}{args:List SV}{refs refs':List Box}{r:PV}(A:Ann) (n:Nat) (hf:Tryz.prog.funcs[f]? = some fn) (h:argsFit args→AWp Tryz.prog A c (finK Tryz.prog rv r refs') (start args refs))
  (hb:fn.body=some c:=by exact rfl) (hr:fn.results.toList=rv:=by exact rfl) (hk:fnChk fn n args.length c=true:=by kernel_rfl) (hlen:refs'.length=refs.length:=by exact rfl) (hnm:(refs'.flatMap fun b=>svNames b.c).all (isRefB refs.length)=true:=by exact rfl):Spec Tryz.prog f args refs r refs':=
 Spec.walk A n hf mixed hb hr hk hlen hnm h
theorem wk {f:FuncId}{fn:Func}{c:Code}{rv:List ResultVar}{args:List SV}{refs refs':List Box}{r:PV}(A:Ann) (n:Nat) (hf:Tryz.prog.funcs[f]? = some fn) (h:AWp Tryz.prog A c (finK Tryz.prog rv r refs') (start args refs))
  (hb:fn.body=some c:=by exact rfl) (hr:fn.results.toList=rv:=by exact rfl) (hk:fnChk fn n args.length c=true:=by kernel_rfl) (hlen:refs'.length=refs.length:=by exact rfl) (hnm:(refs'.flatMap fun b=>svNames b.c).all (isRefB refs.length)=true:=by exact rfl):Spec Tryz.prog f args refs r refs':=
 Spec.walk A n hf mixed hb hr hk hlen hnm fun _=>h
end Go.Abs.Kon