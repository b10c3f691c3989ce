/- Closed facts on the types and functions of this program, printed by a program and checked by the kernel. -/
import Derived.Test.YtokeiaiddaojnaaGreatDoorAbsD
import Derived.Test.YtokeiaiddaojnaaGreatDoorProg
set_option linter.unusedSimpArgs false
set_option linter.unusedVariables false
namespace Go.Abs.Kon
open Go Go.Proofs Go.Abs
theorem mixed:Tryz.prog.follows .mixedOrders=true:=by kernel_rfl
@[go_sem] theorem sz3:szOf Tryz.prog 3=some Sz.one:=by kernel_rfl
@[go_sem] theorem zo3:zeroOf Tryz.prog 3=some (Sz.one,SV.one (SC.pv (PV.int IntKind.i64 0))):=by kernel_rfl
@[go_sem] theorem eq3:eqTOf Tryz.prog 3=EqT.other:=by kernel_rfl
@[go_sem] theorem sz5:szOf Tryz.prog 5=some Sz.one:=by kernel_rfl
@[go_sem] theorem cv5:cvTOf Tryz.prog 5=CvT.int IntKind.u8:=by kernel_rfl
@[go_sem] theorem sz9:szOf Tryz.prog 9=some Sz.one:=by kernel_rfl
@[go_sem] theorem eq9:eqTOf Tryz.prog 9=EqT.str:=by kernel_rfl
@[go_sem] theorem cv9:cvTOf Tryz.prog 9=CvT.string:=by kernel_rfl
@[go_sem] theorem sz22:szOf Tryz.prog 22=some Sz.one:=by kernel_rfl
@[go_sem] theorem el22:elemOf Tryz.prog 22=some 24:=by kernel_rfl
@[go_sem] theorem es22:elemSz Tryz.prog 22=some (Sz.agg 1,24):=by kernel_rfl
@[go_sem] theorem eq22:eqTOf Tryz.prog 22=EqT.other:=by kernel_rfl
@[go_sem] theorem sz24:szOf Tryz.prog 24=some (Sz.agg 1):=by kernel_rfl
@[go_sem] theorem zo24:zeroOf Tryz.prog 24=some (Sz.agg 1,SV.agg [SC.nilS]):=by kernel_rfl
@[go_sem] theorem fo24_0:fieldOff Tryz.prog 24 0=some 0:=by kernel_rfl
@[go_sem] theorem sz25:szOf Tryz.prog 25=some Sz.one:=by kernel_rfl
@[go_sem] theorem el25:elemOf Tryz.prog 25=some 9:=by kernel_rfl
@[go_sem] theorem es25:elemSz Tryz.prog 25=some (Sz.one,16):=by kernel_rfl
@[go_sem] theorem eq25:eqTOf Tryz.prog 25=EqT.other:=by kernel_rfl
@[go_sem] theorem sz26:szOf Tryz.prog 26=some Sz.one:=by kernel_rfl
@[go_sem] theorem el26:elemOf Tryz.prog 26=some 28:=by kernel_rfl
@[go_sem] theorem es26:elemSz Tryz.prog 26=some (Sz.agg 6,104):=by kernel_rfl
@[go_sem] theorem eq26:eqTOf Tryz.prog 26=EqT.other:=by kernel_rfl
@[go_sem] theorem sz28:szOf Tryz.prog 28=some (Sz.agg 6):=by kernel_rfl
@[go_sem] theorem zo28:zeroOf Tryz.prog 28=some (Sz.agg 6,SV.agg [SC.pv (PV.int IntKind.i64 0),SC.pv (PV.int IntKind.i64 0),SC.pv (PV.str ByteArray.empty),SC.nilS,SC.nilS,SC.nilS]):=by kernel_rfl
@[go_sem] theorem pl28:placesOf Tryz.prog 28=some [(0,Sz.one),(1,Sz.one),(2,Sz.one),(3,Sz.agg 1),(4,Sz.one),(5,Sz.one)]:=by kernel_rfl
@[go_sem] theorem fo28_0:fieldOff Tryz.prog 28 0=some 0:=by kernel_rfl
@[go_sem] theorem fo28_1:fieldOff Tryz.prog 28 1=some 1:=by kernel_rfl
@[go_sem] theorem fo28_2:fieldOff Tryz.prog 28 2=some 2:=by kernel_rfl
@[go_sem] theorem fo28_3:fieldOff Tryz.prog 28 3=some 3:=by kernel_rfl
@[go_sem] theorem fo28_4:fieldOff Tryz.prog 28 4=some 4:=by kernel_rfl
@[go_sem] theorem fo28_5:fieldOff Tryz.prog 28 5=some 5:=by kernel_rfl
@[go_sem] theorem sz29:szOf Tryz.prog 29=some Sz.one:=by kernel_rfl
@[go_sem] theorem el29:elemOf Tryz.prog 29=some 31:=by kernel_rfl
@[go_sem] theorem es29:elemSz Tryz.prog 29=some (Sz.agg 18,312):=by kernel_rfl
@[go_sem] theorem eq29:eqTOf Tryz.prog 29=EqT.other:=by kernel_rfl
@[go_sem] theorem sz31:szOf Tryz.prog 31=some (Sz.agg 18):=by kernel_rfl
@[go_sem] theorem zo31:zeroOf Tryz.prog 31=some (Sz.agg 18,SV.agg [SC.pv (PV.int IntKind.i64 0),SC.pv (PV.int IntKind.i64 0),SC.pv (PV.str ByteArray.empty),SC.pv (PV.int IntKind.i64 0),SC.pv (PV.int IntKind.i64 0),SC.pv (PV.str ByteArray.empty),SC.nilS,SC.nilS,SC.nilS,SC.pv (PV.int IntKind.i64 0),SC.pv (PV.int IntKind.i64 0),SC.pv (PV.str ByteArray.empty),SC.nilS,SC.nilS,SC.nilS,SC.nilS,SC.nilS,SC.nilS]):=by kernel_rfl
@[go_sem] theorem pl31:placesOf Tryz.prog 31=some [(0,Sz.one),(1,Sz.one),(2,Sz.one),(3,Sz.agg 6),(9,Sz.agg 6),(15,Sz.agg 1),(16,Sz.one),(17,Sz.one)]:=by kernel_rfl
@[go_sem] theorem fo31_0:fieldOff Tryz.prog 31 0=some 0:=by kernel_rfl
@[go_sem] theorem fo31_1:fieldOff Tryz.prog 31 1=some 1:=by kernel_rfl
@[go_sem] theorem fo31_2:fieldOff Tryz.prog 31 2=some 2:=by kernel_rfl
@[go_sem] theorem fo31_3:fieldOff Tryz.prog 31 3=some 3:=by kernel_rfl
@[go_sem] theorem fo31_4:fieldOff Tryz.prog 31 4=some 9:=by kernel_rfl
@[go_sem] theorem fo31_5:fieldOff Tryz.prog 31 5=some 15:=by kernel_rfl
@[go_sem] theorem fo31_6:fieldOff Tryz.prog 31 6=some 16:=by kernel_rfl
@[go_sem] theorem fo31_7:fieldOff Tryz.prog 31 7=some 17:=by kernel_rfl
@[go_sem] theorem sz34:szOf Tryz.prog 34=some Sz.one:=by kernel_rfl
@[go_sem] theorem el34:elemOf Tryz.prog 34=some 36:=by kernel_rfl
@[go_sem] theorem es34:elemSz Tryz.prog 34=some (Sz.agg 5,80):=by kernel_rfl
@[go_sem] theorem eq34:eqTOf Tryz.prog 34=EqT.other:=by kernel_rfl
@[go_sem] theorem sz36:szOf Tryz.prog 36=some (Sz.agg 5):=by kernel_rfl
@[go_sem] theorem zo36:zeroOf Tryz.prog 36=some (Sz.agg 5,SV.agg [SC.pv (PV.int IntKind.i64 0),SC.pv (PV.int IntKind.i64 0),SC.pv (PV.str ByteArray.empty),SC.nilS,SC.nilS]):=by kernel_rfl
@[go_sem] theorem pl36:placesOf Tryz.prog 36=some [(0,Sz.one),(1,Sz.one),(2,Sz.one),(3,Sz.one),(4,Sz.one)]:=by kernel_rfl
@[go_sem] theorem fo36_0:fieldOff Tryz.prog 36 0=some 0:=by kernel_rfl
@[go_sem] theorem fo36_1:fieldOff Tryz.prog 36 1=some 1:=by kernel_rfl
@[go_sem] theorem fo36_2:fieldOff Tryz.prog 36 2=some 2:=by kernel_rfl
@[go_sem] theorem fo36_3:fieldOff Tryz.prog 36 3=some 3:=by kernel_rfl
@[go_sem] theorem fo36_4:fieldOff Tryz.prog 36 4=some 4:=by kernel_rfl
@[go_sem] theorem sz38:szOf Tryz.prog 38=some (Sz.agg 9):=by kernel_rfl
@[go_sem] theorem zo38:zeroOf Tryz.prog 38=some (Sz.agg 9,SV.agg [SC.pv (PV.int IntKind.i64 0),SC.pv (PV.int IntKind.i64 0),SC.pv (PV.int IntKind.i64 0),SC.pv (PV.int IntKind.i64 0),SC.pv (PV.int IntKind.i64 0),SC.pv (PV.str ByteArray.empty),SC.nilS,SC.nilS,SC.nilS]):=by kernel_rfl
@[go_sem] theorem pl38:placesOf Tryz.prog 38=some [(0,Sz.one),(1,Sz.one),(2,Sz.one),(3,Sz.agg 5),(8,Sz.one)]:=by kernel_rfl
@[go_sem] theorem fo38_0:fieldOff Tryz.prog 38 0=some 0:=by kernel_rfl
@[go_sem] theorem fo38_1:fieldOff Tryz.prog 38 1=some 1:=by kernel_rfl
@[go_sem] theorem fo38_2:fieldOff Tryz.prog 38 2=some 2:=by kernel_rfl
@[go_sem] theorem fo38_3:fieldOff Tryz.prog 38 3=some 3:=by kernel_rfl
@[go_sem] theorem sz53:szOf Tryz.prog 53=some Sz.one:=by kernel_rfl
@[go_sem] theorem zo53:zeroOf Tryz.prog 53=some (Sz.one,SV.one (SC.pv PV.nilfn)):=by kernel_rfl
@[go_sem] theorem sz54:szOf Tryz.prog 54=some Sz.one:=by kernel_rfl
@[go_sem] theorem sz69:szOf Tryz.prog 69=some Sz.one:=by kernel_rfl
@[go_sem] theorem zo69:zeroOf Tryz.prog 69=some (Sz.one,SV.one (SC.pv PV.nilp)):=by kernel_rfl
@[go_sem] theorem sz71:szOf Tryz.prog 71=some (Sz.agg 3):=by kernel_rfl
@[go_sem] theorem zo71:zeroOf Tryz.prog 71=some (Sz.agg 3,SV.agg [SC.pv (PV.int IntKind.i64 0),SC.pv (PV.int IntKind.i64 0),SC.nilS]):=by kernel_rfl
@[go_sem] theorem pl71:placesOf Tryz.prog 71=some [(0,Sz.one),(1,Sz.one),(2,Sz.one)]:=by kernel_rfl
@[go_sem] theorem fo71_0:fieldOff Tryz.prog 71 0=some 0:=by kernel_rfl
@[go_sem] theorem fo71_1:fieldOff Tryz.prog 71 1=some 1:=by kernel_rfl
@[go_sem] theorem fo71_2:fieldOff Tryz.prog 71 2=some 2:=by kernel_rfl
@[go_sem] theorem sz73:szOf Tryz.prog 73=some (Sz.agg 2):=by kernel_rfl
@[go_sem] theorem zo73:zeroOf Tryz.prog 73=some (Sz.agg 2,SV.agg [SC.pv (PV.int IntKind.i64 0),SC.pv (PV.int IntKind.i64 0)]):=by kernel_rfl
@[go_sem] theorem pl73:placesOf Tryz.prog 73=some [(0,Sz.one),(1,Sz.one)]:=by kernel_rfl
@[go_sem] theorem eq73:eqTOf Tryz.prog 73=EqT.other:=by kernel_rfl
@[go_sem] theorem fo73_0:fieldOff Tryz.prog 73 0=some 0:=by kernel_rfl
@[go_sem] theorem fo73_1:fieldOff Tryz.prog 73 1=some 1:=by kernel_rfl
@[go_sem] theorem sz76:szOf Tryz.prog 76=some Sz.one:=by kernel_rfl
@[go_sem] theorem sz80:szOf Tryz.prog 80=some (Sz.agg 5):=by kernel_rfl
@[go_sem] theorem zo80:zeroOf Tryz.prog 80=some (Sz.agg 5,SV.agg [SC.pv (PV.int IntKind.i64 0),SC.pv (PV.int IntKind.i64 0),SC.nilS,SC.pv (PV.int IntKind.i64 0),SC.pv (PV.int IntKind.i64 0)]):=by kernel_rfl
@[go_sem] theorem pl80:placesOf Tryz.prog 80=some [(0,Sz.one),(1,Sz.one),(2,Sz.one),(3,Sz.one),(4,Sz.one)]:=by kernel_rfl
@[go_sem] theorem fo80_2:fieldOff Tryz.prog 80 2=some 2:=by kernel_rfl
@[go_sem] theorem fo80_3:fieldOff Tryz.prog 80 3=some 3:=by kernel_rfl
@[go_sem] theorem fo80_4:fieldOff Tryz.prog 80 4=some 4:=by kernel_rfl
@[go_sem] theorem sz81:szOf Tryz.prog 81=some Sz.one:=by kernel_rfl
@[go_sem] theorem el81:elemOf Tryz.prog 81=some 83:=by kernel_rfl
@[go_sem] theorem es81:elemSz Tryz.prog 81=some (Sz.agg 25,424):=by kernel_rfl
@[go_sem] theorem eq81:eqTOf Tryz.prog 81=EqT.other:=by kernel_rfl
@[go_sem] theorem sz83:szOf Tryz.prog 83=some (Sz.agg 25):=by kernel_rfl
@[go_sem] theorem zo83:zeroOf Tryz.prog 83=some (Sz.agg 25,SV.agg [SC.pv (PV.int IntKind.i64 0),SC.pv (PV.int IntKind.i64 0),SC.pv (PV.str ByteArray.empty),SC.nilS,SC.nilS,SC.pv (PV.int IntKind.i64 0),SC.pv (PV.int IntKind.i64 0),SC.pv (PV.str ByteArray.empty),SC.pv (PV.int IntKind.i64 0),SC.pv (PV.int IntKind.i64 0),SC.pv (PV.str ByteArray.empty),SC.nilS,SC.nilS,SC.nilS,SC.pv (PV.int IntKind.i64 0),SC.pv (PV.int IntKind.i64 0),SC.pv (PV.str ByteArray.empty),SC.nilS,SC.nilS,SC.nilS,SC.nilS,SC.nilS,SC.nilS,SC.nilS,SC.pv (PV.bool Bool.false)]):=by kernel_rfl
@[go_sem] theorem pl83:placesOf Tryz.prog 83=some [(0,Sz.one),(1,Sz.one),(2,Sz.one),(3,Sz.one),(4,Sz.one),(5,Sz.agg 18),(23,Sz.one),(24,Sz.one)]:=by kernel_rfl
@[go_sem] theorem fo83_0:fieldOff Tryz.prog 83 0=some 0:=by kernel_rfl
@[go_sem] theorem fo83_1:fieldOff Tryz.prog 83 1=some 1:=by kernel_rfl
@[go_sem] theorem fo83_2:fieldOff Tryz.prog 83 2=some 2:=by kernel_rfl
@[go_sem] theorem fo83_3:fieldOff Tryz.prog 83 3=some 3:=by kernel_rfl
@[go_sem] theorem fo83_4:fieldOff Tryz.prog 83 4=some 4:=by kernel_rfl
@[go_sem] theorem sz91:szOf Tryz.prog 91=some Sz.one:=by kernel_rfl
@[go_sem] theorem el91:elemOf Tryz.prog 91=some 76:=by kernel_rfl
@[go_sem] theorem es91:elemSz Tryz.prog 91=some (Sz.one,8):=by kernel_rfl
@[go_sem] theorem zo91:zeroOf Tryz.prog 91=some (Sz.one,SV.one SC.nilS):=by kernel_rfl
@[go_sem] theorem eq91:eqTOf Tryz.prog 91=EqT.other:=by kernel_rfl
@[go_sem] theorem sz92:szOf Tryz.prog 92=some Sz.one:=by kernel_rfl
@[go_sem] theorem sz94:szOf Tryz.prog 94=some (Sz.agg 24):=by kernel_rfl
@[go_sem] theorem zo94:zeroOf Tryz.prog 94=some (Sz.agg 24,SV.agg [SC.pv (PV.int IntKind.i64 0),SC.pv (PV.int IntKind.i64 0),SC.pv (PV.str ByteArray.empty),SC.nilS,SC.nilS,SC.pv (PV.int IntKind.i64 0),SC.pv (PV.int IntKind.i64 0),SC.pv (PV.str ByteArray.empty),SC.pv (PV.int IntKind.i64 0),SC.pv (PV.int IntKind.i64 0),SC.pv (PV.str ByteArray.empty),SC.nilS,SC.nilS,SC.nilS,SC.pv (PV.int IntKind.i64 0),SC.pv (PV.int IntKind.i64 0),SC.pv (PV.str ByteArray.empty),SC.nilS,SC.nilS,SC.nilS,SC.nilS,SC.nilS,SC.nilS,SC.pv PV.nilp]):=by kernel_rfl
@[go_sem] theorem pl94:placesOf Tryz.prog 94=some [(0,Sz.one),(1,Sz.one),(2,Sz.one),(3,Sz.one),(4,Sz.one),(5,Sz.agg 18),(23,Sz.one)]:=by kernel_rfl
@[go_sem] theorem fo94_0:fieldOff Tryz.prog 94 0=some 0:=by kernel_rfl
@[go_sem] theorem fo94_1:fieldOff Tryz.prog 94 1=some 1:=by kernel_rfl
@[go_sem] theorem fo94_2:fieldOff Tryz.prog 94 2=some 2:=by kernel_rfl
@[go_sem] theorem fo94_3:fieldOff Tryz.prog 94 3=some 3:=by kernel_rfl
@[go_sem] theorem fo94_4:fieldOff Tryz.prog 94 4=some 4:=by kernel_rfl
@[go_sem] theorem fo94_5:fieldOff Tryz.prog 94 5=some 5:=by kernel_rfl
@[go_sem] theorem fo94_6:fieldOff Tryz.prog 94 6=some 23:=by kernel_rfl
@[go_sem] theorem sz108:szOf Tryz.prog 108=some Sz.one:=by kernel_rfl
@[go_sem] theorem el108:elemOf Tryz.prog 108=some 3:=by kernel_rfl
@[go_sem] theorem es108:elemSz Tryz.prog 108=some (Sz.one,8):=by kernel_rfl
@[go_sem] theorem zo108:zeroOf Tryz.prog 108=some (Sz.one,SV.one SC.nilS):=by kernel_rfl
@[go_sem] theorem eq108:eqTOf Tryz.prog 108=EqT.other:=by kernel_rfl
@[go_sem] theorem sz116:szOf Tryz.prog 116=some (Sz.agg 2):=by kernel_rfl
@[go_sem] theorem zo116:zeroOf Tryz.prog 116=some (Sz.agg 2,SV.agg [SC.pv PV.nilp,SC.pv PV.nilp]):=by kernel_rfl
@[go_sem] theorem pl116:placesOf Tryz.prog 116=some [(0,Sz.one),(1,Sz.one)]:=by kernel_rfl
@[go_sem] theorem fo116_0:fieldOff Tryz.prog 116 0=some 0:=by kernel_rfl
@[go_sem] theorem fo116_1:fieldOff Tryz.prog 116 1=some 1:=by kernel_rfl
@[go_sem] theorem sz149:szOf Tryz.prog 149=some (Sz.agg 2):=by kernel_rfl
@[go_sem] theorem zo149:zeroOf Tryz.prog 149=some (Sz.agg 2,SV.agg [SC.pv (PV.int IntKind.i64 0),SC.pv (PV.int IntKind.i64 0)]):=by kernel_rfl
@[go_sem] theorem pl149:placesOf Tryz.prog 149=some [(0,Sz.one),(1,Sz.one)]:=by kernel_rfl
@[go_sem] theorem fo149_0:fieldOff Tryz.prog 149 0=some 0:=by kernel_rfl
@[go_sem] theorem fo149_1:fieldOff Tryz.prog 149 1=some 1:=by kernel_rfl
@[go_sem] theorem sz168:szOf Tryz.prog 168=some Sz.one:=by kernel_rfl
@[go_sem] theorem zo168:zeroOf Tryz.prog 168=some (Sz.one,SV.one SC.any):=by kernel_rfl
@[go_sem] theorem mp168:mapTOf Tryz.prog 168=true:=by kernel_rfl
@[go_sem] theorem mi168:mapIOf Tryz.prog 168=false:=by kernel_rfl
@[go_sem] theorem el183:elemOf Tryz.prog 183=some 5:=by kernel_rfl
@[go_sem] theorem es183:elemSz Tryz.prog 183=some (Sz.one,1):=by kernel_rfl
@[go_sem] theorem eq183:eqTOf Tryz.prog 183=EqT.other:=by kernel_rfl
@[go_sem] theorem cv183:cvTOf Tryz.prog 183=CvT.bytes:=by kernel_rfl
@[go_sem] theorem cv211:cvTOf Tryz.prog 211=CvT.int IntKind.u64:=by kernel_rfl
@[go_sem] theorem eq244:eqTOf Tryz.prog 244=EqT.iface:=by kernel_rfl
@[go_sem] def lv6:List (Nat×List Nat):=[(10,[4]),(9,[12,9,11,8,10,7]),(8,[9,8,7,1,0]),(7,[4]),(6,[1,0,23]),(5,[1,0,5,6]),(4,[1,0,5]),(3,[1,0,5]),(2,[4]),(1,[1,0,14]),(0,[1,0])]
def ann6:Ann:=⟨[],[],lv6,[]⟩
@[go_sem] theorem ann6_s:ann6.imm=[]∧ann6.frz=[]∧ann6.live=lv6∧ann6.head=[]:=⟨rfl,rfl,rfl,rfl⟩
@[go_sem] def lv8:List (Nat×List Nat):=[(5,[0]),(4,[4,5]),(3,[2,1,3]),(2,[2,1]),(1,[1]),(0,[])]
def ann8:Ann:=⟨[],[],lv8,[]⟩
@[go_sem] theorem ann8_s:ann8.imm=[]∧ann8.frz=[]∧ann8.live=lv8∧ann8.head=[]:=⟨rfl,rfl,rfl,rfl⟩
@[go_sem] def lv10:List (Nat×List Nat):=[(11,[4,5]),(10,[4,9]),(9,[4,9,8,40]),(8,[4,9,8]),(7,[4,8,6,7]),(6,[4,6,7,2]),(5,[4,6,2]),(2,[4,5]),(4,[4,5]),(3,[4,2,1,15]),(1,[4,2,1,10]),(0,[4,2,1])]
def ann10:Ann:=⟨[2,25],[],lv10,[]⟩
@[go_sem] theorem ann10_s:ann10.imm=[2,25]∧ann10.frz=[]∧ann10.live=lv10∧ann10.head=[]:=⟨rfl,rfl,rfl,rfl⟩
@[go_sem] def lv11:List (Nat×List Nat):=[(15,[4,5]),(14,[4,8]),(13,[4,5]),(12,[4,8]),(11,[4,8,9,62]),(10,[4,8,9,10]),(9,[4,5]),(8,[4,8,7,54]),(7,[4,8,7,6]),(6,[4,7,6]),(5,[4,6,2]),(4,[4,5]),(3,[4,2,1,25]),(2,[4,5]),(1,[4,2,1,18]),(0,[4,2,1])]
def ann11:Ann:=⟨[2,29],[],lv11,[]⟩
@[go_sem] def lv13:List (Nat×List Nat):=[(9,[4]),(8,[13,1,0,12]),(7,[4]),(6,[1,0,12,13,24]),(5,[1,0,12,13,5]),(4,[1,0,12,13,14]),(3,[13,1,0,12]),(2,[4]),(1,[1,0,10]),(0,[1,0])]
def ann13:Ann:=⟨[],[],lv13,[(4,[13,1,0,12])]⟩
@[go_sem] theorem ann13_s:ann13.imm=[]∧ann13.frz=[]∧ann13.live=lv13∧ann13.head=[(4,[13,1,0,12])]:=⟨rfl,rfl,rfl,rfl⟩
@[go_sem] def lv16:List (Nat×List Nat):=[(8,[4]),(5,[5,3,2]),(7,[4]),(6,[3,2,5,60]),(4,[3,2,5,47]),(3,[5,3,2]),(2,[4]),(1,[3,2,42]),(0,[3,2])]
def ann16:Ann:=⟨[2,3],[],lv16,[(4,[5,3,2])]⟩
@[go_sem] theorem ann16_s:ann16.imm=[2,3]∧ann16.frz=[]∧ann16.live=lv16∧ann16.head=[(4,[5,3,2])]:=⟨rfl,rfl,rfl,rfl⟩
def ann18:Ann:=⟨[3,4],[],[(2,[5]),(1,[2,4,3]),(0,[2,4,3])],[]⟩
@[go_sem] theorem ann18_s:ann18.imm=[3,4]∧ann18.frz=[]∧ann18.live=[(2,[5]),(1,[2,4,3]),(0,[2,4,3])]∧ann18.head=[]:=⟨rfl,rfl,rfl,rfl⟩
def ann19:Ann:=⟨[],[],[(1,[4]),(0,[1,0])],[]⟩
@[go_sem] theorem ann19_s:ann19.imm=[]∧ann19.frz=[]∧ann19.live=[(1,[4]),(0,[1,0])]∧ann19.head=[]:=⟨rfl,rfl,rfl,rfl⟩
def ann20:Ann:=⟨[3],[],[(1,[4]),(0,[2,3,1])],[]⟩
@[go_sem] theorem ann20_s:ann20.imm=[3]∧ann20.frz=[]∧ann20.live=[(1,[4]),(0,[2,3,1])]∧ann20.head=[]:=⟨rfl,rfl,rfl,rfl⟩
def ann21:Ann:=⟨[3],[],[(1,[4]),(0,[2,3,1])],[]⟩
@[go_sem] theorem ann21_s:ann21.imm=[3]∧ann21.frz=[]∧ann21.live=[(1,[4]),(0,[2,3,1])]∧ann21.head=[]:=⟨rfl,rfl,rfl,rfl⟩
@[go_sem] def lv22:List (Nat×List Nat):=[(18,[4,5,6]),(17,[4,5,6]),(16,[4,13,12,60]),(15,[4,13,12]),(14,[4,12,2,9]),(13,[40,9,38,4,2,39]),(12,[9,38,4,2,39,40]),(11,[9,38,4,2,39,40,11]),(10,[9,38,4,2,39,40,41]),(9,[40,9,38,4,2,39]),(8,[9,4,2,1]),(3,[4,5,6]),(5,[4,5,6]),(7,[4,5,6]),(6,[4,2,1,27]),(4,[4,2,1,8,7,23]),(2,[4,2,1,8,7,19]),(1,[4,2,1,8,7]),(0,[4,2,1])]
def ann22:Ann:=⟨[2,52],[],lv22,[(10,[40,9,38,4,2,39])]⟩
@[go_sem] theorem ann22_s:ann22.imm=[2,52]∧ann22.frz=[]∧ann22.live=lv22∧ann22.head=[(10,[40,9,38,4,2,39])]:=⟨rfl,rfl,rfl,rfl⟩
@[go_sem] def lv23:List (Nat×List Nat):=[(23,[4,5,6]),(22,[4,14]),(21,[4,5,6]),(20,[4,12,13,72]),(19,[4,12,13]),(18,[4,12,8,0]),(17,[4,5,6]),(16,[4,8,0,60]),(11,[4,9,8,1,0]),(15,[4,8,1,0,9]),(14,[4,5,6]),(13,[4,1,0,9,10,8,51]),(12,[4,1,0,9,10,8,11]),(10,[4,1,0,9,8,39]),(9,[4,9,8,1,0]),(8,[4,8,1,0]),(5,[4,7,1,0]),(7,[4,5,6]),(6,[4,1,0,7,34]),(4,[4,1,0,7,26]),(3,[4,7,1,0]),(2,[4,5,6]),(1,[4,1,0,21]),(0,[4,1,0])]
def ann23:Ann:=⟨[63],[],lv23,[(10,[4,9,8,1,0]),(4,[4,7,1,0])]⟩
@[go_sem] theorem ann23_s:ann23.imm=[63]∧ann23.frz=[]∧ann23.live=lv23∧ann23.head=[(10,[4,9,8,1,0]),(4,[4,7,1,0])]:=⟨rfl,rfl,rfl,rfl⟩
def ann26:Ann:=⟨[],[],[(1,[2]),(0,[2,0])],[]⟩
@[go_sem] theorem ann26_s:ann26.imm=[]∧ann26.frz=[]∧ann26.live=[(1,[2]),(0,[2,0])]∧ann26.head=[]:=⟨rfl,rfl,rfl,rfl⟩
def ann27:Ann:=⟨[4,5],[],[(1,[6]),(0,[6,5,4,0])],[]⟩
@[go_sem] theorem ann27_s:ann27.imm=[4,5]∧ann27.frz=[]∧ann27.live=[(1,[6]),(0,[6,5,4,0])]∧ann27.head=[]:=⟨rfl,rfl,rfl,rfl⟩
@[go_sem] def lv30:List (Nat×List Nat):=[(4,[6]),(3,[6]),(2,[4,5,3,57]),(1,[4,5,3]),(0,[4,5,3])]
def ann30:Ann:=⟨[3,4,5],[],lv30,[]⟩
def ann31:Ann:=⟨[1],[],[(2,[2]),(1,[4,3,5]),(0,[1])],[]⟩
@[go_sem] theorem ann31_s:ann31.imm=[1]∧ann31.frz=[]∧ann31.live=[(2,[2]),(1,[4,3,5]),(0,[1])]∧ann31.head=[]:=⟨rfl,rfl,rfl,rfl⟩
def ann33:Ann:=⟨[],[],[(1,[]),(0,[2,3,1,0])],[]⟩
@[go_sem] theorem ann33_s:ann33.imm=[]∧ann33.frz=[]∧ann33.live=[(1,[]),(0,[2,3,1,0])]∧ann33.head=[]:=⟨rfl,rfl,rfl,rfl⟩
@[go_sem] def lv34:List (Nat×List Nat):=[(10,[6]),(9,[47,7,2,1,45,6,46]),(8,[7,2,1,45,6,46,47]),(7,[7,2,1,45,6,46,47,9]),(6,[7,2,1,45,6,46,47,48]),(5,[47,7,2,1,45,6,46]),(4,[7,2,1,6,0]),(3,[2,1,6,0]),(2,[2,1,6,0,22]),(1,[2,1,6,0]),(0,[2,1,6,0])]
def ann34:Ann:=⟨[],[],lv34,[(6,[47,7,2,1,45,6,46])]⟩
@[go_sem] theorem ann34_s:ann34.imm=[]∧ann34.frz=[]∧ann34.live=lv34∧ann34.head=[(6,[47,7,2,1,45,6,46])]:=⟨rfl,rfl,rfl,rfl⟩
@[go_sem] def lv35:List (Nat×List Nat):=[(61,[6]),(37,[6]),(36,[12,13,0]),(35,[12,13,0]),(40,[6]),(39,[12,0]),(42,[6]),(44,[6]),(46,[6]),(49,[6]),(48,[2,12,4,0]),(52,[6]),(51,[12]),(56,[6]),(55,[14,12]),(54,[14,12]),(60,[6]),(59,[2,12,15,4,0]),(58,[2,12,15,4,0]),(57,[2,12,4,0,247]),(53,[12,4,2,0,117,221]),(50,[12,4,2,0,117,207]),(47,[2,12,4,0,117,184]),(45,[12,2,4,0,117,178]),(43,[12,4,2,0,117,170]),(41,[12,4,2,0,117,164]),(38,[12,0,4,2,117,146]),(34,[12,0,2,4,117,118]),(33,[12,0,2,4,117]),(32,[12,0,2,4]),(4,[6]),(6,[6]),(8,[6]),(11,[6]),(18,[6]),(17,[8]),(16,[8,2]),(15,[2,7]),(14,[2,7,0]),(13,[2,7,0]),(20,[0,2,4]),(31,[6]),(30,[6]),(29,[9,4,0,98]),(28,[84,2,0,9,82,4,83]),(27,[2,0,9,82,4,83,84]),(26,[2,0,82,4,83,84,11,9]),(25,[2,0,82,4,83,84,9,85]),(24,[84,2,0,9,82,4,83]),(23,[2,0,9,4]),(22,[2,0,4,78]),(21,[2,0,4,78,19]),(19,[0,2,4,19,73]),(12,[2,0,4,19,45]),(10,[2,4,0,19,38]),(9,[2,4,0,19,38]),(7,[4,2,0,19,32]),(5,[4,2,0,19,26]),(3,[4,2,0,19,20]),(2,[4,2,0,19]),(1,[4,2,0]),(0,[4,2,0])]
def ann35:Ann:=⟨[4,31,37,44,69,103,144,169,177,183,205,281,291],[],lv35,[(25,[84,2,0,9,82,4,83])]⟩
@[go_sem] theorem ann35_s:ann35.imm=[4,31,37,44,69,103,144,169,177,183,205,281,291]∧ann35.frz=[]∧ann35.live=lv35∧ann35.head=[(25,[84,2,0,9,82,4,83])]:=⟨rfl,rfl,rfl,rfl⟩
@[go_sem] def lv39:List (Nat×List Nat):=[(15,[6,7]),(9,[6,9,8,2,1,3]),(14,[6,8,2,1,3,9]),(13,[6,8,2,3,9,11]),(12,[6,7]),(11,[6,8,2,3,9,11,10,55]),(10,[6,8,2,3,9,11,10]),(8,[6,8,2,3,9,1,39]),(7,[6,9,8,2,1,3]),(6,[6,8,2,1,3]),(5,[6,7]),(4,[6,1,2,3,23]),(3,[6,1,2,3]),(2,[6,7]),(1,[6,2,3,1,17]),(0,[6,2,3,1])]
def ann39:Ann:=⟨[3],[],lv39,[(8,[6,9,8,2,1,3])]⟩
@[go_sem] theorem ann39_s:ann39.imm=[3]∧ann39.frz=[]∧ann39.live=lv39∧ann39.head=[(8,[6,9,8,2,1,3])]:=⟨rfl,rfl,rfl,rfl⟩
@[go_sem] def lv46:List (Nat×List Nat):=[(8,[4]),(5,[5,1,0]),(7,[4]),(6,[1,0,5,26]),(4,[1,0,5,14]),(3,[5,1,0]),(2,[4]),(1,[1,0,10]),(0,[1,0])]
def ann46:Ann:=⟨[],[],lv46,[(4,[5,1,0])]⟩
@[go_sem] theorem ann46_s:ann46.imm=[]∧ann46.frz=[]∧ann46.live=lv46∧ann46.head=[(4,[5,1,0])]:=⟨rfl,rfl,rfl,rfl⟩
@[go_sem] def lv47:List (Nat×List Nat):=[(7,[4]),(6,[8,0,1,7]),(5,[4]),(4,[5,0,1,7,8,16]),(3,[5,0,1,7,8]),(2,[0,1,7,8,9]),(1,[8,0,1,7]),(0,[0,1])]
def ann47:Ann:=⟨[],[],lv47,[(2,[8,0,1,7])]⟩
@[go_sem] theorem ann47_s:ann47.imm=[]∧ann47.frz=[]∧ann47.live=lv47∧ann47.head=[(2,[8,0,1,7])]:=⟨rfl,rfl,rfl,rfl⟩
@[go_sem] def lv48:List (Nat×List Nat):=[(20,[2,3]),(10,[2,3]),(13,[2,3]),(16,[2,3]),(19,[2,3]),(18,[20]),(17,[20,4]),(15,[4,17]),(14,[4,17]),(12,[4,14]),(11,[4,14]),(9,[4,5]),(8,[4,5]),(7,[4,5]),(6,[4,5]),(5,[4,5]),(4,[4,5]),(3,[4,5]),(2,[4,5]),(1,[4]),(0,[0])]
def ann48:Ann:=⟨[],[],lv48,[]⟩
@[go_sem] theorem ann48_s:ann48.imm=[]∧ann48.frz=[]∧ann48.live=lv48∧ann48.head=[]:=⟨rfl,rfl,rfl,rfl⟩
def ann49:Ann:=⟨[1],[],[(1,[2]),(0,[1])],[]⟩
@[go_sem] theorem ann49_s:ann49.imm=[1]∧ann49.frz=[]∧ann49.live=[(1,[2]),(0,[1])]∧ann49.head=[]:=⟨rfl,rfl,rfl,rfl⟩
def ann50:Ann:=⟨[1],[],[(2,[2]),(1,[3,1]),(0,[1])],[]⟩
@[go_sem] theorem ann50_s:ann50.imm=[1]∧ann50.frz=[]∧ann50.live=[(2,[2]),(1,[3,1]),(0,[1])]∧ann50.head=[]:=⟨rfl,rfl,rfl,rfl⟩
def ann51:Ann:=⟨[2],[],[(1,[3]),(0,[1,2])],[]⟩
@[go_sem] theorem ann51_s:ann51.imm=[2]∧ann51.frz=[]∧ann51.live=[(1,[3]),(0,[1,2])]∧ann51.head=[]:=⟨rfl,rfl,rfl,rfl⟩
def ann52:Ann:=⟨[],[],[(1,[]),(0,[2,3,1,0])],[]⟩
@[go_sem] theorem ann52_s:ann52.imm=[]∧ann52.frz=[]∧ann52.live=[(1,[]),(0,[2,3,1,0])]∧ann52.head=[]:=⟨rfl,rfl,rfl,rfl⟩
@[go_sem] def lv53:List (Nat×List Nat):=[(32,[4]),(4,[4]),(6,[4]),(8,[4]),(15,[4]),(14,[4]),(13,[6,5,62]),(12,[6,5,0]),(11,[6,5,0,59]),(17,[4]),(19,[4]),(21,[4]),(23,[4]),(25,[4]),(27,[4]),(29,[4]),(31,[4]),(30,[5,159]),(28,[6,5,16,147]),(26,[5,6,16,139]),(24,[6,5,16,127]),(22,[6,5,16,115]),(20,[6,5,16,103]),(18,[6,5,16,91]),(16,[5,6,16,83]),(10,[6,5,0,16,52]),(9,[6,5,0,16,52]),(7,[6,5,0,16,41]),(5,[6,5,0,16,29]),(3,[6,5,0,16,17]),(2,[6,5,0,16]),(1,[6,5,0]),(0,[0,1])]
def ann53:Ann:=⟨[],[],lv53,[]⟩
@[go_sem] theorem ann53_s:ann53.imm=[]∧ann53.frz=[]∧ann53.live=lv53∧ann53.head=[]:=⟨rfl,rfl,rfl,rfl⟩
def ann54:Ann:=⟨[1],[],[(1,[2]),(0,[1])],[]⟩
@[go_sem] theorem ann54_s:ann54.imm=[1]∧ann54.frz=[]∧ann54.live=[(1,[2]),(0,[1])]∧ann54.head=[]:=⟨rfl,rfl,rfl,rfl⟩
def ann55:Ann:=⟨[1],[],[(1,[2,3]),(0,[2,1])],[]⟩
@[go_sem] theorem ann55_s:ann55.imm=[1]∧ann55.frz=[]∧ann55.live=[(1,[2,3]),(0,[2,1])]∧ann55.head=[]:=⟨rfl,rfl,rfl,rfl⟩
@[go_sem] def lv56:List (Nat×List Nat):=[(9,[4]),(6,[6,5,1,0]),(8,[4]),(7,[5,1,0,6,21]),(5,[5,1,0,6,12]),(4,[6,5,1,0]),(3,[5,1,0]),(2,[1,0,5,8]),(1,[1,0,5]),(0,[1,0])]
def ann56:Ann:=⟨[],[],lv56,[(5,[6,5,1,0])]⟩
@[go_sem] theorem ann56_s:ann56.imm=[]∧ann56.frz=[]∧ann56.live=lv56∧ann56.head=[(5,[6,5,1,0])]:=⟨rfl,rfl,rfl,rfl⟩
@[go_sem] def lv57:List (Nat×List Nat):=[(33,[6]),(32,[6]),(31,[6]),(30,[6,0,7,139]),(29,[6]),(28,[6,7,0,128]),(27,[6]),(26,[6,8,7,0,1,120]),(25,[6]),(24,[6,7,0,8,1,113]),(23,[6]),(22,[6,8,7,0,1,104]),(21,[6]),(20,[6,8,7,0,1,96]),(19,[6]),(18,[6,8,7,0,1,88]),(17,[6]),(16,[6,8,7,0,1,80]),(15,[6]),(14,[6,7,0,8,1,73]),(13,[6]),(12,[6]),(11,[6,8,7,0,57]),(10,[6]),(9,[6,0,8,7,1,53]),(8,[6,0,8,7,1,50]),(7,[6]),(6,[6,8,7,0,1,37]),(5,[6]),(4,[6,8,7,0,1,28]),(3,[6]),(2,[6,8,7,0,1,19]),(1,[6,8,7,0,1]),(0,[6,0,1,2])]
def ann57:Ann:=⟨[],[],lv57,[]⟩
@[go_sem] theorem ann57_s:ann57.imm=[]∧ann57.frz=[]∧ann57.live=lv57∧ann57.head=[]:=⟨rfl,rfl,rfl,rfl⟩
def ann62:Ann:=⟨[],[],[(1,[4]),(0,[1,0])],[]⟩
@[go_sem] theorem ann62_s:ann62.imm=[]∧ann62.frz=[]∧ann62.live=[(1,[4]),(0,[1,0])]∧ann62.head=[]:=⟨rfl,rfl,rfl,rfl⟩
@[go_sem] def lv64:List (Nat×List Nat):=[(4,[6]),(3,[6]),(2,[4,5,3,43]),(1,[4,5,3]),(0,[4,5,3])]
def ann64:Ann:=⟨[3,4,5],[],lv64,[]⟩
def ann65:Ann:=⟨[2,3],[],[(2,[4]),(1,[3,2]),(0,[3,2])],[]⟩
@[go_sem] def lv67:List (Nat×List Nat):=[(4,[2,3,4]),(3,[3,2]),(2,[2,3,4]),(1,[1,7]),(0,[1])]
def ann67:Ann:=⟨[1],[],lv67,[]⟩
@[go_sem] theorem ann67_s:ann67.imm=[1]∧ann67.frz=[]∧ann67.live=lv67∧ann67.head=[]:=⟨rfl,rfl,rfl,rfl⟩
def ann69:Ann:=⟨[],[],[(0,[])],[]⟩
@[go_sem] theorem ann69_s:ann69.imm=[]∧ann69.frz=[]∧ann69.live=[(0,[])]∧ann69.head=[]:=⟨rfl,rfl,rfl,rfl⟩
def ann71:Ann:=⟨[],[],[(2,[]),(1,[0]),(0,[0,10])],[]⟩
@[go_sem] theorem ann71_s:ann71.imm=[]∧ann71.frz=[]∧ann71.live=[(2,[]),(1,[0]),(0,[0,10])]∧ann71.head=[]:=⟨rfl,rfl,rfl,rfl⟩
@[go_sem] def lv72:List (Nat×List Nat):=[(4,[4]),(2,[1,0]),(3,[0,1]),(1,[1,0,6]),(0,[1,0])]
def ann72:Ann:=⟨[],[],lv72,[(1,[1,0])]⟩
@[go_sem] theorem ann72_s:ann72.imm=[]∧ann72.frz=[]∧ann72.live=lv72∧ann72.head=[(1,[1,0])]:=⟨rfl,rfl,rfl,rfl⟩
def ann73:Ann:=⟨[],[],[(1,[]),(0,[3])],[]⟩
@[go_sem] theorem ann73_s:ann73.imm=[]∧ann73.frz=[]∧ann73.live=[(1,[]),(0,[3])]∧ann73.head=[]:=⟨rfl,rfl,rfl,rfl⟩
@[go_sem] def lv74:List (Nat×List Nat):=[(7,[6]),(6,[2,1]),(5,[2,1,0]),(4,[2,1,0,26]),(3,[2,1,0,20]),(2,[2,1,0]),(1,[2,1,0,8]),(0,[2,1,0])]
def ann74:Ann:=⟨[],[],lv74,[]⟩
@[go_sem] theorem ann74_s:ann74.imm=[]∧ann74.frz=[]∧ann74.live=lv74∧ann74.head=[]:=⟨rfl,rfl,rfl,rfl⟩
def ann75:Ann:=⟨[],[],[(1,[4]),(0,[1,0])],[]⟩
@[go_sem] theorem ann75_s:ann75.imm=[]∧ann75.frz=[]∧ann75.live=[(1,[4]),(0,[1,0])]∧ann75.head=[]:=⟨rfl,rfl,rfl,rfl⟩
@[go_sem] def lv76:List (Nat×List Nat):=[(7,[4]),(6,[8,0,1,7]),(5,[4]),(4,[5,0,1,7,8,16]),(3,[5,0,1,7,8]),(2,[0,1,7,8,9]),(1,[8,0,1,7]),(0,[0,1])]
def ann76:Ann:=⟨[],[],lv76,[(2,[8,0,1,7])]⟩
@[go_sem] theorem ann76_s:ann76.imm=[]∧ann76.frz=[]∧ann76.live=lv76∧ann76.head=[(2,[8,0,1,7])]:=⟨rfl,rfl,rfl,rfl⟩
@[go_sem] def lv80:List (Nat×List Nat):=[(3,[6]),(2,[6]),(1,[6,2,1,0,11]),(0,[6,2,1,0])]
def ann80:Ann:=⟨[],[],lv80,[]⟩
@[go_sem] theorem ann80_s:ann80.imm=[]∧ann80.frz=[]∧ann80.live=lv80∧ann80.head=[]:=⟨rfl,rfl,rfl,rfl⟩
def ann85:Ann:=⟨[1],[],[(2,[2]),(1,[4]),(0,[1])],[]⟩
@[go_sem] theorem ann85_s:ann85.imm=[1]∧ann85.frz=[]∧ann85.live=[(2,[2]),(1,[4]),(0,[1])]∧ann85.head=[]:=⟨rfl,rfl,rfl,rfl⟩
@[go_sem] def lv89:List (Nat×List Nat):=[(4,[6]),(3,[6]),(2,[4,5,3,24]),(1,[4,5,3]),(0,[4,5,3])]
def ann89:Ann:=⟨[3,4,5],[],lv89,[]⟩
@[go_sem] theorem ann89_s:ann89.imm=[3,4,5]∧ann89.frz=[]∧ann89.live=lv89∧ann89.head=[]:=⟨rfl,rfl,rfl,rfl⟩
def ann90:Ann:=⟨[12],[],[(3,[2]),(2,[0]),(1,[0,8]),(0,[0])],[]⟩
@[go_sem] theorem ann90_s:ann90.imm=[12]∧ann90.frz=[]∧ann90.live=[(3,[2]),(2,[0]),(1,[0,8]),(0,[0])]∧ann90.head=[]:=⟨rfl,rfl,rfl,rfl⟩
def ann91:Ann:=⟨[],[],[(3,[4]),(2,[1,0]),(1,[1,0,18]),(0,[1,0])],[]⟩
@[go_sem] theorem ann91_s:ann91.imm=[]∧ann91.frz=[]∧ann91.live=[(3,[4]),(2,[1,0]),(1,[1,0,18]),(0,[1,0])]∧ann91.head=[]:=⟨rfl,rfl,rfl,rfl⟩
def ann92:Ann:=⟨[9,12],[],[(4,[2]),(3,[3]),(2,[3,4]),(1,[3,0]),(0,[0])],[]⟩
@[go_sem] theorem ann92_s:ann92.imm=[9,12]∧ann92.frz=[]∧ann92.live=[(4,[2]),(3,[3]),(2,[3,4]),(1,[3,0]),(0,[0])]∧ann92.head=[]:=⟨rfl,rfl,rfl,rfl⟩
def ann93:Ann:=⟨[9],[],[(3,[2]),(2,[0]),(1,[0,5]),(0,[0])],[]⟩
@[go_sem] theorem ann93_s:ann93.imm=[9]∧ann93.frz=[]∧ann93.live=[(3,[2]),(2,[0]),(1,[0,5]),(0,[0])]∧ann93.head=[]:=⟨rfl,rfl,rfl,rfl⟩
def ann95:Ann:=⟨[2],[],[(1,[0]),(0,[])],[]⟩
@[go_sem] theorem ann95_s:ann95.imm=[2]∧ann95.frz=[]∧ann95.live=[(1,[0]),(0,[])]∧ann95.head=[]:=⟨rfl,rfl,rfl,rfl⟩
@[go_sem] def lv96:List (Nat×List Nat):=[(10,[6]),(6,[7,2,1,3]),(9,[6]),(8,[1,2,3,7,33]),(7,[1,2,3,7]),(5,[2,3,7,1,20]),(4,[7,2,1,3]),(3,[2,1,3]),(2,[6]),(1,[2,3,1,13]),(0,[2,3,1])]
def ann96:Ann:=⟨[3],[],lv96,[(5,[7,2,1,3])]⟩
@[go_sem] theorem ann96_s:ann96.imm=[3]∧ann96.frz=[]∧ann96.live=lv96∧ann96.head=[(5,[7,2,1,3])]:=⟨rfl,rfl,rfl,rfl⟩
@[go_sem] def lv97:List (Nat×List Nat):=[(8,[2]),(5,[3,1]),(7,[2]),(6,[1,3,20]),(4,[1,3,11]),(3,[3,1]),(2,[2]),(1,[1,6]),(0,[1])]
def ann97:Ann:=⟨[1],[],lv97,[(4,[3,1])]⟩
@[go_sem] theorem ann97_s:ann97.imm=[1]∧ann97.frz=[]∧ann97.live=lv97∧ann97.head=[(4,[3,1])]:=⟨rfl,rfl,rfl,rfl⟩
def ann98:Ann:=⟨[],[],[(1,[2]),(0,[0])],[]⟩
@[go_sem] theorem ann98_s:ann98.imm=[]∧ann98.frz=[]∧ann98.live=[(1,[2]),(0,[0])]∧ann98.head=[]:=⟨rfl,rfl,rfl,rfl⟩
def ann99:Ann:=⟨[],[],[(3,[2]),(2,[2]),(1,[16]),(0,[0])],[]⟩
@[go_sem] theorem ann99_s:ann99.imm=[]∧ann99.frz=[]∧ann99.live=[(3,[2]),(2,[2]),(1,[16]),(0,[0])]∧ann99.head=[]:=⟨rfl,rfl,rfl,rfl⟩
def ann100:Ann:=⟨[],[],[(3,[4]),(2,[4]),(1,[4,0,1,10]),(0,[4,0,1])],[]⟩
@[go_sem] theorem ann100_s:ann100.imm=[]∧ann100.frz=[]∧ann100.live=[(3,[4]),(2,[4]),(1,[4,0,1,10]),(0,[4,0,1])]∧ann100.head=[]:=⟨rfl,rfl,rfl,rfl⟩
@[go_sem] def lv101:List (Nat×List Nat):=[(5,[4]),(4,[4]),(3,[1,0,24]),(2,[1,0,6,5]),(1,[1,0,12]),(0,[1,0])]
def ann101:Ann:=⟨[],[],lv101,[]⟩
@[go_sem] theorem ann101_s:ann101.imm=[]∧ann101.frz=[]∧ann101.live=lv101∧ann101.head=[]:=⟨rfl,rfl,rfl,rfl⟩
@[go_sem] def lv102:List (Nat×List Nat):=[(4,[2]),(3,[2,3]),(2,[2,3,4]),(1,[2,3,0]),(0,[2,0])]
def ann102:Ann:=⟨[],[],lv102,[]⟩
@[go_sem] theorem ann102_s:ann102.imm=[]∧ann102.frz=[]∧ann102.live=lv102∧ann102.head=[]:=⟨rfl,rfl,rfl,rfl⟩
def ann103:Ann:=⟨[],[],[(3,[4]),(2,[4]),(1,[4,0,1,7]),(0,[4,0,1])],[]⟩
@[go_sem] theorem ann103_s:ann103.imm=[]∧ann103.frz=[]∧ann103.live=[(3,[4]),(2,[4]),(1,[4,0,1,7]),(0,[4,0,1])]∧ann103.head=[]:=⟨rfl,rfl,rfl,rfl⟩
def ann104:Ann:=⟨[],[],[(3,[2]),(2,[2]),(1,[0,4]),(0,[0])],[]⟩
@[go_sem] theorem ann104_s:ann104.imm=[]∧ann104.frz=[]∧ann104.live=[(3,[2]),(2,[2]),(1,[0,4]),(0,[0])]∧ann104.head=[]:=⟨rfl,rfl,rfl,rfl⟩
def ann105:Ann:=⟨[],[],[(1,[0]),(0,[0])],[]⟩
@[go_sem] theorem ann105_s:ann105.imm=[]∧ann105.frz=[]∧ann105.live=[(1,[0]),(0,[0])]∧ann105.head=[]:=⟨rfl,rfl,rfl,rfl⟩
@[go_sem] def lv110:List (Nat×List Nat):=[(7,[4]),(6,[8,0,1,7]),(5,[4]),(4,[5,0,1,7,8,16]),(3,[5,0,1,7,8]),(2,[0,1,7,8,9]),(1,[8,0,1,7]),(0,[0,1])]
def ann110:Ann:=⟨[],[],lv110,[(2,[8,0,1,7])]⟩
@[go_sem] theorem ann110_s:ann110.imm=[]∧ann110.frz=[]∧ann110.live=lv110∧ann110.head=[(2,[8,0,1,7])]:=⟨rfl,rfl,rfl,rfl⟩
def ann112:Ann:=⟨[],[],[(1,[4]),(0,[1,0])],[]⟩
@[go_sem] theorem ann112_s:ann112.imm=[]∧ann112.frz=[]∧ann112.live=[(1,[4]),(0,[1,0])]∧ann112.head=[]:=⟨rfl,rfl,rfl,rfl⟩
def ann116:Ann:=⟨[1],[],[(3,[2,3]),(2,[5,4]),(1,[5,4,1]),(0,[1])],[]⟩
@[go_sem] theorem ann116_s:ann116.imm=[1]∧ann116.frz=[]∧ann116.live=[(3,[2,3]),(2,[5,4]),(1,[5,4,1]),(0,[1])]∧ann116.head=[]:=⟨rfl,rfl,rfl,rfl⟩
def ann117:Ann:=⟨[],[],[(1,[4]),(0,[1,0])],[]⟩
@[go_sem] theorem ann117_s:ann117.imm=[]∧ann117.frz=[]∧ann117.live=[(1,[4]),(0,[1,0])]∧ann117.head=[]:=⟨rfl,rfl,rfl,rfl⟩
def ann118:Ann:=⟨[],[],[(1,[3]),(0,[1,0])],[]⟩
@[go_sem] theorem ann118_s:ann118.imm=[]∧ann118.frz=[]∧ann118.live=[(1,[3]),(0,[1,0])]∧ann118.head=[]:=⟨rfl,rfl,rfl,rfl⟩
@[go_sem] def lv124:List (Nat×List Nat):=[(16,[6,7]),(15,[43,8,2,1,41,42]),(14,[8,2,1,41,42,43]),(13,[6,7]),(12,[2,1,41,42,43,11,8,58]),(11,[2,1,41,42,43,11,8,12]),(10,[2,1,41,42,43,8,10]),(9,[2,1,41,42,43,8,44]),(8,[43,8,2,1,41,42]),(7,[8,2,1,3]),(6,[2,1,3,8,34]),(5,[2,1,3,8]),(4,[2,1,3,8,26]),(3,[2,1,3,8]),(2,[6,7]),(1,[2,1,3,23]),(0,[2,1,3])]
def ann124:Ann:=⟨[3],[],lv124,[(9,[43,8,2,1,41,42])]⟩
@[go_sem] theorem ann124_s:ann124.imm=[3]∧ann124.frz=[]∧ann124.live=lv124∧ann124.head=[(9,[43,8,2,1,41,42])]:=⟨rfl,rfl,rfl,rfl⟩
@[go_sem] def lv126:List (Nat×List Nat):=[(20,[2]),(4,[2]),(6,[2]),(10,[2]),(9,[2]),(8,[1,3,46]),(14,[2]),(13,[2]),(12,[1,3,74]),(17,[2]),(19,[2]),(18,[1,3,117]),(16,[1,3,6,106]),(15,[1,3,6,106]),(11,[1,3,6,71]),(7,[1,3,6,43]),(5,[1,3,6,27]),(3,[1,3,6,7]),(2,[1,3,6]),(1,[1,3]),(0,[1])]
def ann126:Ann:=⟨[1],[],lv126,[]⟩
@[go_sem] theorem ann126_s:ann126.imm=[1]∧ann126.frz=[]∧ann126.live=lv126∧ann126.head=[]:=⟨rfl,rfl,rfl,rfl⟩
def ann127:Ann:=⟨[3],[],[(1,[4]),(0,[2,1,3])],[]⟩
@[go_sem] theorem ann127_s:ann127.imm=[3]∧ann127.frz=[]∧ann127.live=[(1,[4]),(0,[2,1,3])]∧ann127.head=[]:=⟨rfl,rfl,rfl,rfl⟩
@[go_sem] def lv129:List (Nat×List Nat):=[(18,[2]),(4,[2]),(6,[2]),(10,[2]),(9,[2]),(8,[1,68]),(14,[2]),(13,[2]),(12,[1,4,3,98]),(17,[2]),(16,[1,4,3,120]),(15,[1,4,3,120,12]),(11,[1,4,3,12,87]),(7,[1,4,3,12,57]),(5,[1,3,4,12,37]),(3,[1,4,3,12,13]),(2,[1,4,3,12]),(1,[1,4,3]),(0,[1])]
def ann129:Ann:=⟨[1],[],lv129,[]⟩
@[go_sem] theorem ann129_s:ann129.imm=[1]∧ann129.frz=[]∧ann129.live=lv129∧ann129.head=[]:=⟨rfl,rfl,rfl,rfl⟩
@[go_sem] def lv130:List (Nat×List Nat):=[(5,[2]),(4,[2]),(3,[0,10]),(2,[2]),(1,[0,4]),(0,[0])]
def ann130:Ann:=⟨[],[],lv130,[]⟩
@[go_sem] theorem ann130_s:ann130.imm=[]∧ann130.frz=[]∧ann130.live=lv130∧ann130.head=[]:=⟨rfl,rfl,rfl,rfl⟩
@[go_sem] def lv135:List (Nat×List Nat):=[(10,[2]),(9,[2]),(8,[4]),(7,[4,3]),(6,[4,3]),(5,[4,3]),(4,[4,3]),(3,[4,3]),(2,[4,3]),(1,[3]),(0,[0])]
def ann135:Ann:=⟨[],[],lv135,[]⟩
@[go_sem] theorem ann135_s:ann135.imm=[]∧ann135.frz=[]∧ann135.live=lv135∧ann135.head=[]:=⟨rfl,rfl,rfl,rfl⟩
@[go_sem] def lv136:List (Nat×List Nat):=[(14,[6]),(3,[6,3]),(6,[6,3]),(8,[6,3]),(11,[6,3]),(10,[6,3,2]),(13,[6,3]),(12,[6,3,2,42]),(9,[6,3,2,8,30]),(7,[6,3,2,8,22]),(5,[6,3,2,8,15]),(4,[6,3,2,8,15]),(2,[6,3,2,8,9]),(1,[6,3,2,8]),(0,[6,3,2,4])]
def ann136:Ann:=⟨[4],[],lv136,[]⟩
@[go_sem] theorem ann136_s:ann136.imm=[4]∧ann136.frz=[]∧ann136.live=lv136∧ann136.head=[]:=⟨rfl,rfl,rfl,rfl⟩
@[go_sem] def lv137:List (Nat×List Nat):=[(7,[4]),(6,[8,0,1,7]),(5,[4]),(4,[5,0,1,7,8,16]),(3,[5,0,1,7,8]),(2,[0,1,7,8,9]),(1,[8,0,1,7]),(0,[0,1])]
def ann137:Ann:=⟨[],[],lv137,[(2,[8,0,1,7])]⟩
@[go_sem] theorem ann137_s:ann137.imm=[]∧ann137.frz=[]∧ann137.live=lv137∧ann137.head=[(2,[8,0,1,7])]:=⟨rfl,rfl,rfl,rfl⟩
@[go_sem] def lv139:List (Nat×List Nat):=[(11,[37,3,2,5,4,35,36]),(10,[3,2,5,4,35,36,37]),(9,[3,2,5,4,35,36,37,9,8]),(8,[3,2,5,4,35,36,37,38]),(7,[37,3,2,5,4,35,36]),(6,[3,2,5,4]),(5,[3,2,5,4,28]),(4,[3,2,5,4]),(3,[3,2,5,4,20]),(2,[3,2,5,4]),(1,[3,2,5,4,12]),(0,[3,2,5,4])]
def ann139:Ann:=⟨[4,5],[],lv139,[(8,[37,3,2,5,4,35,36])]⟩
@[go_sem] theorem ann139_s:ann139.imm=[4,5]∧ann139.frz=[]∧ann139.live=lv139∧ann139.head=[(8,[37,3,2,5,4,35,36])]:=⟨rfl,rfl,rfl,rfl⟩
@[go_sem] def lv140:List (Nat×List Nat):=[(7,[16,4,2,14,15]),(6,[4,2,14,15,16]),(5,[4,2,14,15,16,8,23]),(4,[4,2,14,15,16,8]),(3,[4,2,14,15,16,17]),(2,[16,4,2,14,15]),(1,[4,2,5]),(0,[4,2,3])]
def ann140:Ann:=⟨[3,4],[],lv140,[(3,[16,4,2,14,15])]⟩
@[go_sem] theorem ann140_s:ann140.imm=[3,4]∧ann140.frz=[]∧ann140.live=lv140∧ann140.head=[(3,[16,4,2,14,15])]:=⟨rfl,rfl,rfl,rfl⟩
def ann142:Ann:=⟨[4],[],[(2,[]),(1,[4,0,2,8]),(0,[4,0,2])],[]⟩
@[go_sem] theorem ann142_s:ann142.imm=[4]∧ann142.frz=[]∧ann142.live=[(2,[]),(1,[4,0,2,8]),(0,[4,0,2])]∧ann142.head=[]:=⟨rfl,rfl,rfl,rfl⟩
@[go_sem] def lv144:List (Nat×List Nat):=[(7,[4]),(6,[8,0,1,7]),(5,[4]),(4,[5,0,1,7,8,16]),(3,[5,0,1,7,8]),(2,[0,1,7,8,9]),(1,[8,0,1,7]),(0,[0,1])]
def ann144:Ann:=⟨[],[],lv144,[(2,[8,0,1,7])]⟩
@[go_sem] theorem ann144_s:ann144.imm=[]∧ann144.frz=[]∧ann144.live=lv144∧ann144.head=[(2,[8,0,1,7])]:=⟨rfl,rfl,rfl,rfl⟩
def ann157:Ann:=⟨[1],[],[(4,[2]),(3,[1,3]),(2,[2]),(1,[1,34]),(0,[1])],[]⟩
@[go_sem] theorem ann157_s:ann157.imm=[1]∧ann157.frz=[]∧ann157.live=[(4,[2]),(3,[1,3]),(2,[2]),(1,[1,34]),(0,[1])]∧ann157.head=[]:=⟨rfl,rfl,rfl,rfl⟩
@[go_sem] def lv158:List (Nat×List Nat):=[(7,[2]),(6,[9,3,7,8]),(5,[3,7,8,9]),(4,[7,8,9,5,3]),(3,[7,8,9,3,10]),(2,[9,3,7,8]),(1,[3,1]),(0,[1])]
def ann158:Ann:=⟨[1],[],lv158,[(3,[9,3,7,8])]⟩
@[go_sem] theorem ann158_s:ann158.imm=[1]∧ann158.frz=[]∧ann158.live=lv158∧ann158.head=[(3,[9,3,7,8])]:=⟨rfl,rfl,rfl,rfl⟩
def ann159:Ann:=⟨[],[],[(1,[7]),(0,[3,2,1,0])],[]⟩
@[go_sem] theorem ann159_s:ann159.imm=[]∧ann159.frz=[]∧ann159.live=[(1,[7]),(0,[3,2,1,0])]∧ann159.head=[]:=⟨rfl,rfl,rfl,rfl⟩
def ann160:Ann:=⟨[1],[],[(1,[2]),(0,[1])],[]⟩
@[go_sem] theorem ann160_s:ann160.imm=[1]∧ann160.frz=[]∧ann160.live=[(1,[2]),(0,[1])]∧ann160.head=[]:=⟨rfl,rfl,rfl,rfl⟩
def ann161:Ann:=⟨[],[],[(1,[2]),(0,[0])],[]⟩
@[go_sem] theorem ann161_s:ann161.imm=[]∧ann161.frz=[]∧ann161.live=[(1,[2]),(0,[0])]∧ann161.head=[]:=⟨rfl,rfl,rfl,rfl⟩
def ann162:Ann:=⟨[1],[],[(1,[2]),(0,[1])],[]⟩
@[go_sem] theorem ann162_s:ann162.imm=[1]∧ann162.frz=[]∧ann162.live=[(1,[2]),(0,[1])]∧ann162.head=[]:=⟨rfl,rfl,rfl,rfl⟩
@[go_sem] def lv163:List (Nat×List Nat):=[(9,[2]),(8,[15,13,14]),(7,[2]),(6,[13,14,15,21]),(5,[13,14,15,4]),(4,[13,14,15,16]),(3,[15,13,14]),(2,[2]),(1,[0,11]),(0,[0])]
def ann163:Ann:=⟨[],[],lv163,[(4,[15,13,14])]⟩
@[go_sem] theorem ann163_s:ann163.imm=[]∧ann163.frz=[]∧ann163.live=lv163∧ann163.head=[(4,[15,13,14])]:=⟨rfl,rfl,rfl,rfl⟩
@[go_sem] def lv165:List (Nat×List Nat):=[(6,[2]),(3,[3,0]),(5,[2]),(4,[0,3,31]),(2,[0,3,7]),(1,[3,0]),(0,[0])]
def ann165:Ann:=⟨[],[],lv165,[(2,[3,0])]⟩
@[go_sem] theorem ann165_s:ann165.imm=[]∧ann165.frz=[]∧ann165.live=lv165∧ann165.head=[(2,[3,0])]:=⟨rfl,rfl,rfl,rfl⟩
@[go_sem] def lv166:List (Nat×List Nat):=[(6,[2]),(3,[3,0]),(5,[2]),(4,[0,3,20]),(2,[0,3,7]),(1,[3,0]),(0,[0])]
def ann166:Ann:=⟨[],[],lv166,[(2,[3,0])]⟩
@[go_sem] theorem ann166_s:ann166.imm=[]∧ann166.frz=[]∧ann166.live=lv166∧ann166.head=[(2,[3,0])]:=⟨rfl,rfl,rfl,rfl⟩
def ann167:Ann:=⟨[1],[],[(1,[2]),(0,[1])],[]⟩
@[go_sem] theorem ann167_s:ann167.imm=[1]∧ann167.frz=[]∧ann167.live=[(1,[2]),(0,[1])]∧ann167.head=[]:=⟨rfl,rfl,rfl,rfl⟩
@[go_sem] def lv168:List (Nat×List Nat):=[(9,[27,2,1,25,26]),(8,[2,1,25,26,27]),(7,[2,1,25,26,27,7]),(6,[2,1,25,26,27,28]),(5,[27,2,1,25,26]),(4,[2,1,3]),(3,[2,3,1,21]),(2,[2,3,1]),(1,[2,3,1,15]),(0,[2,3,1])]
def ann168:Ann:=⟨[3],[],lv168,[(6,[27,2,1,25,26])]⟩
@[go_sem] theorem ann168_s:ann168.imm=[3]∧ann168.frz=[]∧ann168.live=lv168∧ann168.head=[(6,[27,2,1,25,26])]:=⟨rfl,rfl,rfl,rfl⟩
def ann173:Ann:=⟨[],[],[(1,[]),(0,[2,0])],[]⟩
@[go_sem] theorem ann173_s:ann173.imm=[]∧ann173.frz=[]∧ann173.live=[(1,[]),(0,[2,0])]∧ann173.head=[]:=⟨rfl,rfl,rfl,rfl⟩
@[go_sem] def lv174:List (Nat×List Nat):=[(16,[2]),(5,[3,0]),(15,[2]),(14,[3,0]),(10,[5,3,4,0]),(13,[3,4,0,5]),(12,[4,0,5,3]),(11,[4,0,5,3,44]),(9,[4,0,5,3,32]),(8,[5,3,4,0]),(7,[3,4,0]),(6,[3,0,25]),(4,[3,0,13]),(3,[3,0]),(2,[2]),(1,[0,8]),(0,[0])]
def ann174:Ann:=⟨[],[],lv174,[(9,[5,3,4,0]),(4,[3,0])]⟩
@[go_sem] theorem ann174_s:ann174.imm=[]∧ann174.frz=[]∧ann174.live=lv174∧ann174.head=[(9,[5,3,4,0]),(4,[3,0])]:=⟨rfl,rfl,rfl,rfl⟩
@[go_sem] def lv181:List (Nat×List Nat):=[(10,[2]),(3,[2]),(5,[2]),(7,[2]),(9,[2]),(8,[1,35]),(6,[1,4,25]),(4,[1,4,15]),(2,[1,4,5]),(1,[1,4]),(0,[1])]
def ann181:Ann:=⟨[1],[],lv181,[]⟩
@[go_sem] theorem ann181_s:ann181.imm=[1]∧ann181.frz=[]∧ann181.live=lv181∧ann181.head=[]:=⟨rfl,rfl,rfl,rfl⟩
@[go_sem] def lv182:List (Nat×List Nat):=[(27,[2]),(6,[2]),(16,[2]),(20,[2]),(22,[2]),(24,[2]),(26,[2]),(25,[1,35]),(23,[1,4,29]),(21,[1,4,24]),(19,[1,4,20]),(18,[1,4,20]),(17,[1,4,20]),(15,[1,4,10]),(14,[1,4,10]),(13,[1,4,10]),(12,[1,4,10]),(11,[1,4,10]),(10,[1,4,10]),(9,[1,4,10]),(8,[1,4,10]),(7,[1,4,10]),(5,[1,4,5]),(4,[1,4,5]),(3,[1,4,5]),(2,[1,4,5]),(1,[1,4]),(0,[1])]
def ann182:Ann:=⟨[1],[],lv182,[]⟩
@[go_sem] theorem ann182_s:ann182.imm=[1]∧ann182.frz=[]∧ann182.live=lv182∧ann182.head=[]:=⟨rfl,rfl,rfl,rfl⟩
@[go_sem] def lv183:List (Nat×List Nat):=[(7,[2]),(3,[2]),(6,[2]),(5,[1,11]),(4,[1,11,4]),(2,[1,4,5]),(1,[1,4]),(0,[1])]
def ann183:Ann:=⟨[1],[],lv183,[]⟩
@[go_sem] theorem ann183_s:ann183.imm=[1]∧ann183.frz=[]∧ann183.live=lv183∧ann183.head=[]:=⟨rfl,rfl,rfl,rfl⟩
@[go_sem] def lv184:List (Nat×List Nat):=[(5,[2]),(2,[2]),(4,[2]),(3,[1,16]),(1,[1,3]),(0,[1])]
def ann184:Ann:=⟨[1],[],lv184,[]⟩
@[go_sem] theorem ann184_s:ann184.imm=[1]∧ann184.frz=[]∧ann184.live=lv184∧ann184.head=[]:=⟨rfl,rfl,rfl,rfl⟩
def ann185:Ann:=⟨[1],[],[(2,[2]),(1,[4]),(0,[1])],[]⟩
@[go_sem] theorem ann185_s:ann185.imm=[1]∧ann185.frz=[]∧ann185.live=[(2,[2]),(1,[4]),(0,[1])]∧ann185.head=[]:=⟨rfl,rfl,rfl,rfl⟩
def ann186:Ann:=⟨[2],[],[(3,[4]),(2,[4]),(1,[2,5]),(0,[2,1])],[]⟩
@[go_sem] theorem ann186_s:ann186.imm=[2]∧ann186.frz=[]∧ann186.live=[(3,[4]),(2,[4]),(1,[2,5]),(0,[2,1])]∧ann186.head=[]:=⟨rfl,rfl,rfl,rfl⟩
@[go_sem] def lv187:List (Nat×List Nat):=[(6,[2]),(3,[3,0]),(5,[2]),(4,[0,3,19]),(2,[0,3,7]),(1,[3,0]),(0,[0])]
def ann187:Ann:=⟨[],[],lv187,[(2,[3,0])]⟩
@[go_sem] theorem ann187_s:ann187.imm=[]∧ann187.frz=[]∧ann187.live=lv187∧ann187.head=[(2,[3,0])]:=⟨rfl,rfl,rfl,rfl⟩
def ann188:Ann:=⟨[],[],[(1,[2]),(0,[0])],[]⟩
@[go_sem] theorem ann188_s:ann188.imm=[]∧ann188.frz=[]∧ann188.live=[(1,[2]),(0,[0])]∧ann188.head=[]:=⟨rfl,rfl,rfl,rfl⟩
@[go_sem] def lv189:List (Nat×List Nat):=[(11,[2]),(2,[2]),(4,[2]),(6,[2]),(8,[2]),(10,[2]),(9,[27]),(7,[0,24]),(5,[0,17]),(3,[0,10]),(1,[0,3]),(0,[0])]
def ann189:Ann:=⟨[],[],lv189,[]⟩
@[go_sem] theorem ann189_s:ann189.imm=[]∧ann189.frz=[]∧ann189.live=lv189∧ann189.head=[]:=⟨rfl,rfl,rfl,rfl⟩
def ann194:Ann:=⟨[],[],[(1,[2]),(0,[0])],[]⟩
@[go_sem] theorem ann194_s:ann194.imm=[]∧ann194.frz=[]∧ann194.live=[(1,[2]),(0,[0])]∧ann194.head=[]:=⟨rfl,rfl,rfl,rfl⟩
@[go_sem] def lv195:List (Nat×List Nat):=[(7,[2]),(6,[9,3,7,8]),(5,[3,7,8,9]),(4,[7,8,9,5,3]),(3,[7,8,9,3,10]),(2,[9,3,7,8]),(1,[3,1]),(0,[1])]
def ann195:Ann:=⟨[1],[],lv195,[(3,[9,3,7,8])]⟩
@[go_sem] theorem ann195_s:ann195.imm=[1]∧ann195.frz=[]∧ann195.live=lv195∧ann195.head=[(3,[9,3,7,8])]:=⟨rfl,rfl,rfl,rfl⟩
@[go_sem] def lv196:List (Nat×List Nat):=[(17,[2]),(16,[2]),(15,[1,95]),(14,[2]),(13,[1,69]),(12,[1,3]),(11,[2]),(10,[1,44]),(9,[2]),(8,[1,25]),(5,[2]),(4,[1,14]),(7,[1,15]),(6,[1,15,11]),(3,[1,11]),(2,[2]),(1,[1,9]),(0,[1])]
def ann196:Ann:=⟨[1],[],lv196,[]⟩
@[go_sem] theorem ann196_s:ann196.imm=[1]∧ann196.frz=[]∧ann196.live=lv196∧ann196.head=[]:=⟨rfl,rfl,rfl,rfl⟩
def ann197:Ann:=⟨[1],[],[(1,[2]),(0,[1])],[]⟩
@[go_sem] theorem ann197_s:ann197.imm=[1]∧ann197.frz=[]∧ann197.live=[(1,[2]),(0,[1])]∧ann197.head=[]:=⟨rfl,rfl,rfl,rfl⟩
@[go_sem] def lv202:List (Nat×List Nat):=[(27,[2,1,0,9,8,3]),(26,[2,0,9,8,3,14]),(25,[2,0,9,8,3,14,1]),(30,[2,1,0,9,8,3]),(29,[1,0,9,8,3,14]),(28,[1,0,9,8,3,14,2]),(24,[2,0,9,3,14,1,18,16,17,113]),(23,[2,0,9,3,14,1,18,16,17]),(22,[2,0,9,3,14,1,16,17,10]),(21,[2,0,9,3,14,1,10]),(20,[2,0,3,14,1,10,15]),(19,[2,1,0,9,8,3]),(18,[2,0,9,8,3,13]),(17,[2,0,9,8,3,11,1,10,87]),(16,[2,0,9,8,3,11,1,10,72]),(15,[2,0,9,8,3,11,1,10,68]),(14,[2,0,9,8,3,11,1,10,12]),(13,[2,0,9,8,3,11,1,10]),(12,[2,0,9,8,3,1,10,11]),(11,[2,0,9,8,3,1,10,11,12,50]),(10,[2,0,9,8,3,1,10,11,12]),(9,[2,0,9,8,3,1,10]),(8,[2,0,9,8,1,10,3]),(7,[2,0,9,8,1,10,3,35]),(6,[]),(5,[2,1,0,9,8,10,3,29]),(4,[]),(3,[2,1,0,9,8,10,3,23]),(2,[2,1,0,9,8,10,3]),(1,[2,1,0,9,8,3]),(0,[2,1,0,8,3])]
def ann202:Ann:=⟨[],[],lv202,[(1,[2,1,0,9,8,3])]⟩
@[go_sem] theorem ann202_s:ann202.imm=[]∧ann202.frz=[]∧ann202.live=lv202∧ann202.head=[(1,[2,1,0,9,8,3])]:=⟨rfl,rfl,rfl,rfl⟩
def ann203:Ann:=⟨[],[],[(2,[2]),(1,[2]),(0,[0])],[]⟩
@[go_sem] theorem ann203_s:ann203.imm=[]∧ann203.frz=[]∧ann203.live=[(2,[2]),(1,[2]),(0,[0])]∧ann203.head=[]:=⟨rfl,rfl,rfl,rfl⟩
@[go_sem] def lv208:List (Nat×List Nat):=[(7,[2]),(6,[2]),(5,[4]),(4,[4,3]),(3,[4,3]),(2,[4,3]),(1,[3]),(0,[0])]
def ann208:Ann:=⟨[],[],lv208,[]⟩
@[go_sem] theorem ann208_s:ann208.imm=[]∧ann208.frz=[]∧ann208.live=lv208∧ann208.head=[]:=⟨rfl,rfl,rfl,rfl⟩
def ann209:Ann:=⟨[],[],[(1,[2]),(0,[0])],[]⟩
@[go_sem] theorem ann209_s:ann209.imm=[]∧ann209.frz=[]∧ann209.live=[(1,[2]),(0,[0])]∧ann209.head=[]:=⟨rfl,rfl,rfl,rfl⟩
@[go_sem] def lv210:List (Nat×List Nat):=[(12,[6,7]),(11,[34,8,2,1,32,33]),(10,[8,2,1,32,33,34]),(9,[6,7]),(8,[2,1,32,33,34,11,8,49]),(7,[2,1,32,33,34,11,8,12]),(6,[2,1,32,33,34,8,10]),(5,[2,1,32,33,34,8,35]),(4,[34,8,2,1,32,33]),(3,[8,2,1,3]),(2,[6,7]),(1,[2,1,3,30]),(0,[2,1,3])]
def ann210:Ann:=⟨[3],[],lv210,[(5,[34,8,2,1,32,33])]⟩
@[go_sem] theorem ann210_s:ann210.imm=[3]∧ann210.frz=[]∧ann210.live=lv210∧ann210.head=[(5,[34,8,2,1,32,33])]:=⟨rfl,rfl,rfl,rfl⟩
def ann211:Ann:=⟨[1],[],[(1,[2]),(0,[1])],[]⟩
@[go_sem] theorem ann211_s:ann211.imm=[1]∧ann211.frz=[]∧ann211.live=[(1,[2]),(0,[1])]∧ann211.head=[]:=⟨rfl,rfl,rfl,rfl⟩
def ann217:Ann:=⟨[],[],[(1,[2]),(0,[0])],[]⟩
@[go_sem] theorem ann217_s:ann217.imm=[]∧ann217.frz=[]∧ann217.live=[(1,[2]),(0,[0])]∧ann217.head=[]:=⟨rfl,rfl,rfl,rfl⟩
def ann218:Ann:=⟨[],[],[(1,[2]),(0,[0])],[]⟩
@[go_sem] theorem ann218_s:ann218.imm=[]∧ann218.frz=[]∧ann218.live=[(1,[2]),(0,[0])]∧ann218.head=[]:=⟨rfl,rfl,rfl,rfl⟩
def ann219:Ann:=⟨[],[],[(1,[2]),(0,[0])],[]⟩
@[go_sem] theorem ann219_s:ann219.imm=[]∧ann219.frz=[]∧ann219.live=[(1,[2]),(0,[0])]∧ann219.head=[]:=⟨rfl,rfl,rfl,rfl⟩
@[go_sem] def lv220:List (Nat×List Nat):=[(9,[2]),(2,[2]),(4,[2]),(6,[2]),(8,[2]),(7,[21]),(5,[1,18]),(3,[1,12]),(1,[1,3]),(0,[1])]
def ann220:Ann:=⟨[1],[],lv220,[]⟩
@[go_sem] theorem ann220_s:ann220.imm=[1]∧ann220.frz=[]∧ann220.live=lv220∧ann220.head=[]:=⟨rfl,rfl,rfl,rfl⟩
def ann221:Ann:=⟨[],[],[(3,[2]),(2,[7,3,0,5]),(1,[3,0,5,4]),(0,[0])],[]⟩
@[go_sem] theorem ann221_s:ann221.imm=[]∧ann221.frz=[]∧ann221.live=[(3,[2]),(2,[7,3,0,5]),(1,[3,0,5,4]),(0,[0])]∧ann221.head=[]:=⟨rfl,rfl,rfl,rfl⟩
def ann222:Ann:=⟨[1],[],[(1,[2]),(0,[1])],[]⟩
@[go_sem] theorem ann222_s:ann222.imm=[1]∧ann222.frz=[]∧ann222.live=[(1,[2]),(0,[1])]∧ann222.head=[]:=⟨rfl,rfl,rfl,rfl⟩
def ann223:Ann:=⟨[],[],[(1,[2]),(0,[0])],[]⟩
@[go_sem] theorem ann223_s:ann223.imm=[]∧ann223.frz=[]∧ann223.live=[(1,[2]),(0,[0])]∧ann223.head=[]:=⟨rfl,rfl,rfl,rfl⟩
def ann224:Ann:=⟨[1],[],[(1,[2]),(0,[1])],[]⟩
@[go_sem] theorem ann224_s:ann224.imm=[1]∧ann224.frz=[]∧ann224.live=[(1,[2]),(0,[1])]∧ann224.head=[]:=⟨rfl,rfl,rfl,rfl⟩
@[go_sem] def lv226:List (Nat×List Nat):=[(2,[0,6,1,2]),(5,[7,0,1,2,6]),(6,[0,1,2,6,7]),(4,[0,1,2,6,7,30]),(3,[7,0,1,2,6]),(1,[0,1,2,6,12]),(0,[0,6,1,2])]
def ann226:Ann:=⟨[],[],lv226,[(4,[7,0,1,2,6]),(1,[0,6,1,2])]⟩
@[go_sem] theorem ann226_s:ann226.imm=[]∧ann226.frz=[]∧ann226.live=lv226∧ann226.head=[(4,[7,0,1,2,6]),(1,[0,6,1,2])]:=⟨rfl,rfl,rfl,rfl⟩
def ann240:Ann:=⟨[2,3],[],[(1,[4]),(0,[3,2])],[]⟩
@[go_sem] theorem ann240_s:ann240.imm=[2,3]∧ann240.frz=[]∧ann240.live=[(1,[4]),(0,[3,2])]∧ann240.head=[]:=⟨rfl,rfl,rfl,rfl⟩
def ann243:Ann:=⟨[],[],[(1,[4,5,6]),(0,[1,0])],[]⟩
@[go_sem] theorem ann243_s:ann243.imm=[]∧ann243.frz=[]∧ann243.live=[(1,[4,5,6]),(0,[1,0])]∧ann243.head=[]:=⟨rfl,rfl,rfl,rfl⟩
@[go_sem] def lv244:List (Nat×List Nat):=[(12,[2,3]),(11,[2,3]),(10,[6,41]),(9,[6,7]),(8,[23,21,0,22]),(7,[2,3]),(6,[21,0,22,23,29]),(5,[21,0,22,23,5]),(4,[21,0,22,23,24]),(3,[23,21,0,22]),(2,[2,3]),(1,[0,19]),(0,[0])]
def ann244:Ann:=⟨[],[],lv244,[(4,[23,21,0,22])]⟩
@[go_sem] theorem ann244_s:ann244.imm=[]∧ann244.frz=[]∧ann244.live=lv244∧ann244.head=[(4,[23,21,0,22])]:=⟨rfl,rfl,rfl,rfl⟩
def ann245:Ann:=⟨[],[],[(1,[2]),(0,[0])],[]⟩
@[go_sem] theorem ann245_s:ann245.imm=[]∧ann245.frz=[]∧ann245.live=[(1,[2]),(0,[0])]∧ann245.head=[]:=⟨rfl,rfl,rfl,rfl⟩
def ann254:Ann:=⟨[2,3],[],[(1,[4]),(0,[3,2])],[]⟩
@[go_sem] theorem ann254_s:ann254.imm=[2,3]∧ann254.frz=[]∧ann254.live=[(1,[4]),(0,[3,2])]∧ann254.head=[]:=⟨rfl,rfl,rfl,rfl⟩
@[go_sem] def lv255:List (Nat×List Nat):=[(10,[6]),(9,[17,2,1,15,16]),(8,[6]),(7,[2,1,15,16,17,30]),(6,[2,1,15,16,17,9,8]),(5,[2,1,15,16,17,8,7]),(4,[2,1,15,16,17,18]),(3,[17,2,1,15,16]),(2,[6]),(1,[2,1,0,14]),(0,[2,1,0])]
def ann255:Ann:=⟨[],[],lv255,[(4,[17,2,1,15,16])]⟩
@[go_sem] theorem ann255_s:ann255.imm=[]∧ann255.frz=[]∧ann255.live=lv255∧ann255.head=[(4,[17,2,1,15,16])]:=⟨rfl,rfl,rfl,rfl⟩
@[go_sem] def lv256:List (Nat×List Nat):=[(4,[4,5,6]),(3,[4,5,6]),(2,[1,7,0,12]),(1,[1,7,0]),(0,[1,0])]
def ann256:Ann:=⟨[],[],lv256,[]⟩
@[go_sem] theorem ann256_s:ann256.imm=[]∧ann256.frz=[]∧ann256.live=lv256∧ann256.head=[]:=⟨rfl,rfl,rfl,rfl⟩
@[go_sem] def lv258:List (Nat×List Nat):=[(10,[4]),(9,[25,23,24]),(8,[4]),(7,[23,24,25,36]),(6,[23,24,25,7]),(5,[23,24,25,6]),(4,[23,24,25,26]),(3,[25,23,24]),(2,[4]),(1,[0,21]),(0,[0,1])]
def ann258:Ann:=⟨[],[],lv258,[(4,[25,23,24])]⟩
@[go_sem] theorem ann258_s:ann258.imm=[]∧ann258.frz=[]∧ann258.live=lv258∧ann258.head=[(4,[25,23,24])]:=⟨rfl,rfl,rfl,rfl⟩
@[go_sem] def lv261:List (Nat×List Nat):=[(10,[6]),(9,[17,2,1,15,16]),(8,[6]),(7,[2,1,15,16,17,30]),(6,[2,1,15,16,17,9,8]),(5,[2,1,15,16,17,8,7]),(4,[2,1,15,16,17,18]),(3,[17,2,1,15,16]),(2,[6]),(1,[2,1,0,14]),(0,[2,1,0])]
def ann261:Ann:=⟨[],[],lv261,[(4,[17,2,1,15,16])]⟩
@[go_sem] theorem ann261_s:ann261.imm=[]∧ann261.frz=[]∧ann261.live=lv261∧ann261.head=[(4,[17,2,1,15,16])]:=⟨rfl,rfl,rfl,rfl⟩
theorem wf {f:FuncId}{fn:Func}{c:Code}{rv:List ResultVar}{args:List SV}{refs refs':List Box}{r:PV}(A:Ann) (n:Nat) (hf:Tryz.prog.funcs[f]? = some fn) (h:argsFit args→AWp Tryz.prog A c (finK Tryz.prog rv r refs') (start args refs))
   (hb:fn.body=some c:=by exact rfl) (hr:fn.results.toList=rv:=by exact rfl) (hk:fnChk fn n args.length c=true:=by kernel_rfl) (hlen:refs'.length=refs.length:=by exact rfl) (hnm:(refs'.flatMap fun b=>svNames b.c).all (isRefB refs.length)=true:=by exact rfl):Spec Tryz.prog f args refs r refs':=
 Spec.walk A n hf mixed hb hr hk hlen hnm h
theorem wk {f:FuncId}{fn:Func}{c:Code}{rv:List ResultVar}{args:List SV}{refs refs':List Box}{r:PV}(A:Ann) (n:Nat) (hf:Tryz.prog.funcs[f]? = some fn) (h:AWp Tryz.prog A c (finK Tryz.prog rv r refs') (start args refs))
   (hb:fn.body=some c:=by exact rfl) (hr:fn.results.toList=rv:=by exact rfl) (hk:fnChk fn n args.length c=true:=by kernel_rfl) (hlen:refs'.length=refs.length:=by exact rfl) (hnm:(refs'.flatMap fun b=>svNames b.c).all (isRefB refs.length)=true:=by exact rfl):Spec Tryz.prog f args refs r refs':=
 Spec.walk A n hf mixed hb hr hk hlen hnm fun _=>h
end Go.Abs.Kon
