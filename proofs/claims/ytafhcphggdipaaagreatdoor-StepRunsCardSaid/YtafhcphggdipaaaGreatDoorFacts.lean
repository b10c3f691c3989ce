/- Closed facts on the types and functions of this program, printed by a program and checked by the kernel. -/
import Derived.Test.YtafhcphggdipaaaGreatDoorAbsD
import Derived.Test.YtafhcphggdipaaaGreatDoorProg
set_option linter.unusedSimpArgs false
set_option linter.unusedVariables false
namespace Go.Abs.Kon
open Go Go.Proofs Go.Abs
theorem mixed:Tryz.prog.follows .mixedOrders=true:=by kernel_rfl
@[go_sem] theorem sz3:szOf Tryz.prog 3=some Sz.one:=by kernel_rfl
@[go_sem] theorem zo3:zeroOf Tryz.prog 3=some (Sz.one,SV.one (SC.pv (PV.int IntKind.i64 0))):=by kernel_rfl
@[go_sem] theorem eq3:eqTOf Tryz.prog 3=EqT.other:=by kernel_rfl
@[go_sem] theorem cv3:cvTOf Tryz.prog 3=CvT.int IntKind.i64:=by kernel_rfl
@[go_sem] theorem sz4:szOf Tryz.prog 4=some Sz.one:=by kernel_rfl
@[go_sem] theorem zo4:zeroOf Tryz.prog 4=some (Sz.one,SV.one (SC.pv (PV.bool Bool.false))):=by kernel_rfl
@[go_sem] theorem eq4:eqTOf Tryz.prog 4=EqT.bool:=by kernel_rfl
@[go_sem] theorem sz5:szOf Tryz.prog 5=some Sz.one:=by kernel_rfl
@[go_sem] theorem eq5:eqTOf Tryz.prog 5=EqT.other:=by kernel_rfl
@[go_sem] theorem cv5:cvTOf Tryz.prog 5=CvT.int IntKind.u8:=by kernel_rfl
@[go_sem] theorem sz9:szOf Tryz.prog 9=some Sz.one:=by kernel_rfl
@[go_sem] theorem eq9:eqTOf Tryz.prog 9=EqT.str:=by kernel_rfl
@[go_sem] theorem cv9:cvTOf Tryz.prog 9=CvT.string:=by kernel_rfl
@[go_sem] theorem sz22:szOf Tryz.prog 22=some Sz.one:=by kernel_rfl
@[go_sem] theorem el22:elemOf Tryz.prog 22=some 24:=by kernel_rfl
@[go_sem] theorem es22:elemSz Tryz.prog 22=some (Sz.agg 1,24):=by kernel_rfl
@[go_sem] theorem eq22:eqTOf Tryz.prog 22=EqT.other:=by kernel_rfl
@[go_sem] theorem sz24:szOf Tryz.prog 24=some (Sz.agg 1):=by kernel_rfl
@[go_sem] theorem zo24:zeroOf Tryz.prog 24=some (Sz.agg 1,SV.agg [SC.nilS]):=by kernel_rfl
@[go_sem] theorem pl24:placesOf Tryz.prog 24=some [(0,Sz.one)]:=by kernel_rfl
@[go_sem] theorem fo24_0:fieldOff Tryz.prog 24 0=some 0:=by kernel_rfl
@[go_sem] theorem sz25:szOf Tryz.prog 25=some Sz.one:=by kernel_rfl
@[go_sem] theorem el25:elemOf Tryz.prog 25=some 9:=by kernel_rfl
@[go_sem] theorem es25:elemSz Tryz.prog 25=some (Sz.one,16):=by kernel_rfl
@[go_sem] theorem eq25:eqTOf Tryz.prog 25=EqT.other:=by kernel_rfl
@[go_sem] theorem sz26:szOf Tryz.prog 26=some Sz.one:=by kernel_rfl
@[go_sem] theorem el26:elemOf Tryz.prog 26=some 28:=by kernel_rfl
@[go_sem] theorem es26:elemSz Tryz.prog 26=some (Sz.agg 6,104):=by kernel_rfl
@[go_sem] theorem eq26:eqTOf Tryz.prog 26=EqT.other:=by kernel_rfl
@[go_sem] theorem sz28:szOf Tryz.prog 28=some (Sz.agg 6):=by kernel_rfl
@[go_sem] theorem zo28:zeroOf Tryz.prog 28=some (Sz.agg 6,SV.agg [SC.pv (PV.int IntKind.i64 0),SC.pv (PV.int IntKind.i64 0),SC.pv (PV.str ByteArray.empty),SC.nilS,SC.nilS,SC.nilS]):=by kernel_rfl
@[go_sem] theorem pl28:placesOf Tryz.prog 28=some [(0,Sz.one),(1,Sz.one),(2,Sz.one),(3,Sz.agg 1),(4,Sz.one),(5,Sz.one)]:=by kernel_rfl
@[go_sem] theorem fo28_0:fieldOff Tryz.prog 28 0=some 0:=by kernel_rfl
@[go_sem] theorem fo28_1:fieldOff Tryz.prog 28 1=some 1:=by kernel_rfl
@[go_sem] theorem fo28_2:fieldOff Tryz.prog 28 2=some 2:=by kernel_rfl
@[go_sem] theorem fo28_3:fieldOff Tryz.prog 28 3=some 3:=by kernel_rfl
@[go_sem] theorem fo28_4:fieldOff Tryz.prog 28 4=some 4:=by kernel_rfl
@[go_sem] theorem fo28_5:fieldOff Tryz.prog 28 5=some 5:=by kernel_rfl
@[go_sem] theorem fs28_5:fieldSz Tryz.prog 28 5=some Sz.one:=by kernel_rfl
@[go_sem] theorem sz29:szOf Tryz.prog 29=some Sz.one:=by kernel_rfl
@[go_sem] theorem el29:elemOf Tryz.prog 29=some 31:=by kernel_rfl
@[go_sem] theorem es29:elemSz Tryz.prog 29=some (Sz.agg 18,312):=by kernel_rfl
@[go_sem] theorem zo29:zeroOf Tryz.prog 29=some (Sz.one,SV.one SC.nilS):=by kernel_rfl
@[go_sem] theorem eq29:eqTOf Tryz.prog 29=EqT.other:=by kernel_rfl
@[go_sem] theorem sz31:szOf Tryz.prog 31=some (Sz.agg 18):=by kernel_rfl
@[go_sem] theorem zo31:zeroOf Tryz.prog 31=some (Sz.agg 18,SV.agg [SC.pv (PV.int IntKind.i64 0),SC.pv (PV.int IntKind.i64 0),SC.pv (PV.str ByteArray.empty),SC.pv (PV.int IntKind.i64 0),SC.pv (PV.int IntKind.i64 0),SC.pv (PV.str ByteArray.empty),SC.nilS,SC.nilS,SC.nilS,SC.pv (PV.int IntKind.i64 0),SC.pv (PV.int IntKind.i64 0),SC.pv (PV.str ByteArray.empty),SC.nilS,SC.nilS,SC.nilS,SC.nilS,SC.nilS,SC.nilS]):=by kernel_rfl
@[go_sem] theorem pl31:placesOf Tryz.prog 31=some [(0,Sz.one),(1,Sz.one),(2,Sz.one),(3,Sz.agg 6),(9,Sz.agg 6),(15,Sz.agg 1),(16,Sz.one),(17,Sz.one)]:=by kernel_rfl
@[go_sem] theorem fo31_0:fieldOff Tryz.prog 31 0=some 0:=by kernel_rfl
@[go_sem] theorem fo31_1:fieldOff Tryz.prog 31 1=some 1:=by kernel_rfl
@[go_sem] theorem fo31_2:fieldOff Tryz.prog 31 2=some 2:=by kernel_rfl
@[go_sem] theorem fo31_3:fieldOff Tryz.prog 31 3=some 3:=by kernel_rfl
@[go_sem] theorem fo31_4:fieldOff Tryz.prog 31 4=some 9:=by kernel_rfl
@[go_sem] theorem fo31_5:fieldOff Tryz.prog 31 5=some 15:=by kernel_rfl
@[go_sem] theorem fo31_6:fieldOff Tryz.prog 31 6=some 16:=by kernel_rfl
@[go_sem] theorem fo31_7:fieldOff Tryz.prog 31 7=some 17:=by kernel_rfl
@[go_sem] theorem sz34:szOf Tryz.prog 34=some Sz.one:=by kernel_rfl
@[go_sem] theorem el34:elemOf Tryz.prog 34=some 3:=by kernel_rfl
@[go_sem] theorem es34:elemSz Tryz.prog 34=some (Sz.one,8):=by kernel_rfl
@[go_sem] theorem zo34:zeroOf Tryz.prog 34=some (Sz.one,SV.one SC.nilS):=by kernel_rfl
@[go_sem] theorem eq34:eqTOf Tryz.prog 34=EqT.other:=by kernel_rfl
@[go_sem] theorem sz70:szOf Tryz.prog 70=some Sz.one:=by kernel_rfl
@[go_sem] theorem zo70:zeroOf Tryz.prog 70=some (Sz.one,SV.one (SC.pv PV.nilfn)):=by kernel_rfl
@[go_sem] theorem sz73:szOf Tryz.prog 73=some Sz.one:=by kernel_rfl
@[go_sem] theorem zo73:zeroOf Tryz.prog 73=some (Sz.one,SV.one (SC.pv PV.nilfn)):=by kernel_rfl
@[go_sem] theorem sz79:szOf Tryz.prog 79=some Sz.one:=by kernel_rfl
@[go_sem] theorem sz80:szOf Tryz.prog 80=some Sz.one:=by kernel_rfl
@[go_sem] theorem sz82:szOf Tryz.prog 82=some (Sz.agg 2):=by kernel_rfl
@[go_sem] theorem zo82:zeroOf Tryz.prog 82=some (Sz.agg 2,SV.agg [SC.pv PV.nilfn,SC.pv PV.nilfn]):=by kernel_rfl
@[go_sem] theorem pl82:placesOf Tryz.prog 82=some [(0,Sz.one),(1,Sz.one)]:=by kernel_rfl
@[go_sem] theorem fo82_0:fieldOff Tryz.prog 82 0=some 0:=by kernel_rfl
@[go_sem] theorem fo82_1:fieldOff Tryz.prog 82 1=some 1:=by kernel_rfl
@[go_sem] theorem sz86:szOf Tryz.prog 86=some (Sz.agg 2):=by kernel_rfl
@[go_sem] theorem zo86:zeroOf Tryz.prog 86=some (Sz.agg 2,SV.agg [SC.pv (PV.int IntKind.i64 0),SC.pv (PV.int IntKind.i64 0)]):=by kernel_rfl
@[go_sem] theorem pl86:placesOf Tryz.prog 86=some [(0,Sz.one),(1,Sz.one)]:=by kernel_rfl
@[go_sem] theorem fo86_0:fieldOff Tryz.prog 86 0=some 0:=by kernel_rfl
@[go_sem] theorem fo86_1:fieldOff Tryz.prog 86 1=some 1:=by kernel_rfl
@[go_sem] theorem el101:elemOf Tryz.prog 101=some 25:=by kernel_rfl
@[go_sem] theorem es101:elemSz Tryz.prog 101=some (Sz.one,24):=by kernel_rfl
@[go_sem] theorem eq101:eqTOf Tryz.prog 101=EqT.other:=by kernel_rfl
@[go_sem] theorem sz106:szOf Tryz.prog 106=some Sz.one:=by kernel_rfl
@[go_sem] theorem zo106:zeroOf Tryz.prog 106=some (Sz.one,SV.one SC.any):=by kernel_rfl
@[go_sem] theorem mp106:mapTOf Tryz.prog 106=true:=by kernel_rfl
@[go_sem] theorem mi106:mapIOf Tryz.prog 106=false:=by kernel_rfl
@[go_sem] theorem sz117:szOf Tryz.prog 117=some Sz.one:=by kernel_rfl
@[go_sem] theorem sz131:szOf Tryz.prog 131=some (Sz.agg 2):=by kernel_rfl
@[go_sem] theorem zo131:zeroOf Tryz.prog 131=some (Sz.agg 2,SV.agg [SC.pv PV.nilfn,SC.pv (PV.int IntKind.i64 0)]):=by kernel_rfl
@[go_sem] theorem pl131:placesOf Tryz.prog 131=some [(0,Sz.one),(1,Sz.one)]:=by kernel_rfl
@[go_sem] theorem fo131_0:fieldOff Tryz.prog 131 0=some 0:=by kernel_rfl
@[go_sem] theorem fo131_1:fieldOff Tryz.prog 131 1=some 1:=by kernel_rfl
@[go_sem] theorem cv146:cvTOf Tryz.prog 146=CvT.int IntKind.u64:=by kernel_rfl
@[go_sem] theorem el153:elemOf Tryz.prog 153=some 5:=by kernel_rfl
@[go_sem] theorem es153:elemSz Tryz.prog 153=some (Sz.one,1):=by kernel_rfl
@[go_sem] theorem eq153:eqTOf Tryz.prog 153=EqT.other:=by kernel_rfl
@[go_sem] theorem cv153:cvTOf Tryz.prog 153=CvT.bytes:=by kernel_rfl
@[go_sem] theorem eq178:eqTOf Tryz.prog 178=EqT.iface:=by kernel_rfl
@[go_sem] def lv7:List (Nat×List Nat):=[(14,[4]),(13,[4]),(12,[9,13,10,7,6,5,8,11,12,105]),(11,[9,13,10,7,6,5,8,11,12]),(10,[4]),(9,[9,10,7,6,5,8,1,2,72]),(8,[4]),(7,[9,10,7,6,5,8,1,2,42]),(6,[9,10,7,6,5,8,1,2]),(5,[7,6,5,8,1,2]),(4,[4]),(3,[1,2,25]),(2,[4]),(1,[1,2,15]),(0,[1,2])]
def ann7:Ann:=⟨[2],[],lv7,[]⟩
@[go_sem] theorem ann7_s:ann7.imm=[2]∧ann7.frz=[]∧ann7.live=lv7∧ann7.head=[]:=⟨rfl,rfl,rfl,rfl⟩
@[go_sem] def lv8:List (Nat×List Nat):=[(13,[2]),(12,[10,7,9,6,11,8]),(11,[7,6,8,1]),(10,[2]),(9,[1,40]),(8,[1,5,4,3]),(7,[1,4,3,5,22]),(6,[1,4,3,5]),(5,[1,4,3]),(4,[2]),(3,[1,15]),(2,[2]),(1,[1,13]),(0,[1])]
def ann8:Ann:=⟨[1],[],lv8,[]⟩
@[go_sem] theorem ann8_s:ann8.imm=[1]∧ann8.frz=[]∧ann8.live=lv8∧ann8.head=[]:=⟨rfl,rfl,rfl,rfl⟩
@[go_sem] def lv9:List (Nat×List Nat):=[(25,[6]),(24,[16,27,12,17,28,13,15,26,29]),(23,[6]),(22,[16,12,17,13,15,8,11,167]),(21,[16,12,17,13,15,8,11,25]),(20,[16,12,17,13,15,8,11,155]),(19,[126,9,16,12,17,13,15,8,11,7,125]),(18,[6]),(17,[9,16,12,17,13,15,8,11,7,125,126,149]),(16,[9,16,12,17,13,15,8,11,7,125,126,19,20,22]),(15,[9,16,12,17,13,15,8,11,7,125,126,19]),(14,[9,16,12,17,13,15,8,11,7,125,126,127]),(13,[126,9,16,12,17,13,15,8,11,7,125]),(12,[6]),(11,[9,16,12,17,13,15,8,11,7,122]),(10,[6]),(9,[15,9,18,10,16,12,17,13,8,11,7,75]),(8,[15,9,18,10,16,12,17,13,8,11,7,14]),(7,[9,10,12,13,8,11,7,14,3]),(6,[9,10,8,7,3]),(5,[6]),(4,[8,7,3,39]),(3,[8,7,3]),(2,[6]),(1,[3,2,1,31]),(0,[3,2,1])]
def ann9:Ann:=⟨[3],[],lv9,[(14,[126,9,16,12,17,13,15,8,11,7,125])]⟩
@[go_sem] theorem ann9_s:ann9.imm=[3]∧ann9.frz=[]∧ann9.live=lv9∧ann9.head=[(14,[126,9,16,12,17,13,15,8,11,7,125])]:=⟨rfl,rfl,rfl,rfl⟩
def ann12:Ann:=⟨[1],[],[(1,[2]),(0,[1])],[]⟩
@[go_sem] theorem ann12_s:ann12.imm=[1]∧ann12.frz=[]∧ann12.live=[(1,[2]),(0,[1])]∧ann12.head=[]:=⟨rfl,rfl,rfl,rfl⟩
@[go_sem] def lv13:List (Nat×List Nat):=[(4,[2,3,4]),(3,[3,2]),(2,[2,3,4]),(1,[1,7]),(0,[1])]
def ann13:Ann:=⟨[1],[],lv13,[]⟩
@[go_sem] theorem ann13_s:ann13.imm=[1]∧ann13.frz=[]∧ann13.live=lv13∧ann13.head=[]:=⟨rfl,rfl,rfl,rfl⟩
@[go_sem] def lv14:List (Nat×List Nat):=[(6,[6,7]),(5,[6,7]),(4,[6,3,2,1,52]),(3,[6,3,2,1,9,8]),(2,[6,7]),(1,[6,3,2,1,12]),(0,[6,3,2,1])]
def ann14:Ann:=⟨[3],[],lv14,[]⟩
@[go_sem] theorem ann14_s:ann14.imm=[3]∧ann14.frz=[]∧ann14.live=lv14∧ann14.head=[]:=⟨rfl,rfl,rfl,rfl⟩
@[go_sem] def lv17:List (Nat×List Nat):=[(4,[4,5]),(3,[4,2,3,6]),(2,[4,5]),(1,[4,2,3,14]),(0,[4,2,3])]
def ann17:Ann:=⟨[2,3],[],lv17,[]⟩
@[go_sem] theorem ann17_s:ann17.imm=[2,3]∧ann17.frz=[]∧ann17.live=lv17∧ann17.head=[]:=⟨rfl,rfl,rfl,rfl⟩
@[go_sem] def lv20:List (Nat×List Nat):=[(8,[4]),(5,[5,3,2]),(7,[4]),(6,[3,2,5,84]),(4,[3,2,5,70]),(3,[5,3,2]),(2,[4]),(1,[3,2,65]),(0,[3,2])]
def ann20:Ann:=⟨[2,3],[],lv20,[(4,[5,3,2])]⟩
@[go_sem] theorem ann20_s:ann20.imm=[2,3]∧ann20.frz=[]∧ann20.live=lv20∧ann20.head=[(4,[5,3,2])]:=⟨rfl,rfl,rfl,rfl⟩
@[go_sem] def lv21:List (Nat×List Nat):=[(5,[4,5]),(2,[4,5]),(4,[4,5]),(3,[4,2,3,15]),(1,[4,2,3,6]),(0,[4,2,3])]
def ann21:Ann:=⟨[2,3],[],lv21,[]⟩
@[go_sem] theorem ann21_s:ann21.imm=[2,3]∧ann21.frz=[]∧ann21.live=lv21∧ann21.head=[]:=⟨rfl,rfl,rfl,rfl⟩
def ann23:Ann:=⟨[],[],[(1,[4]),(0,[1,0])],[]⟩
@[go_sem] theorem ann23_s:ann23.imm=[]∧ann23.frz=[]∧ann23.live=[(1,[4]),(0,[1,0])]∧ann23.head=[]:=⟨rfl,rfl,rfl,rfl⟩
@[go_sem] def lv25:List (Nat×List Nat):=[(5,[0]),(4,[11,5,7,8,2,4]),(3,[5,7,8,2,4]),(2,[2,4,1]),(1,[1]),(0,[])]
def ann25:Ann:=⟨[],[],lv25,[]⟩
@[go_sem] theorem ann25_s:ann25.imm=[]∧ann25.frz=[]∧ann25.live=lv25∧ann25.head=[]:=⟨rfl,rfl,rfl,rfl⟩
@[go_sem] def lv26:List (Nat×List Nat):=[(7,[2]),(6,[3]),(5,[3,1,5]),(4,[3,1,5,4]),(3,[3,1,4]),(2,[3,1,4]),(1,[3,1]),(0,[1])]
def ann26:Ann:=⟨[1],[],lv26,[]⟩
@[go_sem] theorem ann26_s:ann26.imm=[1]∧ann26.frz=[]∧ann26.live=lv26∧ann26.head=[]:=⟨rfl,rfl,rfl,rfl⟩
@[go_sem] def lv27:List (Nat×List Nat):=[(5,[4,5,6,7]),(2,[4,5,6,7]),(4,[4,5,6,7]),(3,[4,1,2,13]),(1,[4,1,2,8]),(0,[4,1,2])]
def ann27:Ann:=⟨[2],[],lv27,[]⟩
@[go_sem] theorem ann27_s:ann27.imm=[2]∧ann27.frz=[]∧ann27.live=lv27∧ann27.head=[]:=⟨rfl,rfl,rfl,rfl⟩
@[go_sem] def lv28:List (Nat×List Nat):=[(9,[4,5]),(8,[4,5]),(7,[10,6,33]),(6,[10,6]),(5,[6,1,2]),(2,[4,5]),(4,[4,5]),(3,[1,2,15]),(1,[1,2,11]),(0,[1,2])]
def ann28:Ann:=⟨[2],[2000009,6000009],lv28,[]⟩
@[go_sem] theorem ann28_s:ann28.imm=[2]∧ann28.frz=[2000009,6000009]∧ann28.live=lv28∧ann28.head=[]:=⟨rfl,rfl,rfl,rfl⟩
def ann29:Ann:=⟨[1],[],[(1,[2]),(0,[1])],[]⟩
@[go_sem] theorem ann29_s:ann29.imm=[1]∧ann29.frz=[]∧ann29.live=[(1,[2]),(0,[1])]∧ann29.head=[]:=⟨rfl,rfl,rfl,rfl⟩
def ann30:Ann:=⟨[1],[],[(1,[2]),(0,[1])],[]⟩
@[go_sem] theorem ann30_s:ann30.imm=[1]∧ann30.frz=[]∧ann30.live=[(1,[2]),(0,[1])]∧ann30.head=[]:=⟨rfl,rfl,rfl,rfl⟩
@[go_sem] def lv31:List (Nat×List Nat):=[(16,[4,5,6]),(5,[8,7,9,2,1]),(15,[8,7,2,1,9]),(14,[8,7,2,1,9,10]),(13,[4,5,6]),(12,[8,2,1,9,10,7,42]),(11,[8,2,1,9,10,7]),(10,[4,5,6]),(9,[12,2,1,9,10,7,11,8,35]),(8,[4,5,6]),(7,[8,7,12,2,1,9,10,11,31]),(6,[8,7,12,2,1,9,10,11]),(4,[8,7,2,1,9,17]),(3,[8,7,9,2,1]),(2,[8,7,2,1]),(1,[7,2,1]),(0,[2,1])]
def ann31:Ann:=⟨[],[],lv31,[(4,[8,7,9,2,1])]⟩
@[go_sem] theorem ann31_s:ann31.imm=[]∧ann31.frz=[]∧ann31.live=lv31∧ann31.head=[(4,[8,7,9,2,1])]:=⟨rfl,rfl,rfl,rfl⟩
@[go_sem] def lv32:List (Nat×List Nat):=[(9,[4]),(8,[13,1,0,12]),(7,[4]),(6,[1,0,12,13,24]),(5,[1,0,12,13,5]),(4,[1,0,12,13,14]),(3,[13,1,0,12]),(2,[4]),(1,[1,0,10]),(0,[1,0])]
def ann32:Ann:=⟨[],[],lv32,[(4,[13,1,0,12])]⟩
@[go_sem] theorem ann32_s:ann32.imm=[]∧ann32.frz=[]∧ann32.live=lv32∧ann32.head=[(4,[13,1,0,12])]:=⟨rfl,rfl,rfl,rfl⟩
@[go_sem] def lv33:List (Nat×List Nat):=[(10,[6]),(9,[17,2,1,15,16]),(8,[6]),(7,[2,1,15,16,17,30]),(6,[2,1,15,16,17,9,8]),(5,[2,1,15,16,17,8,7]),(4,[2,1,15,16,17,18]),(3,[17,2,1,15,16]),(2,[6]),(1,[2,1,0,14]),(0,[2,1,0])]
def ann33:Ann:=⟨[],[],lv33,[(4,[17,2,1,15,16])]⟩
@[go_sem] theorem ann33_s:ann33.imm=[]∧ann33.frz=[]∧ann33.live=lv33∧ann33.head=[(4,[17,2,1,15,16])]:=⟨rfl,rfl,rfl,rfl⟩
@[go_sem] def lv34:List (Nat×List Nat):=[(8,[2,3]),(7,[2,3]),(6,[1,23]),(5,[1]),(4,[1,4,15]),(3,[1,4]),(2,[2,3]),(1,[1,11]),(0,[1])]
def ann34:Ann:=⟨[],[],lv34,[(1,[1])]⟩
@[go_sem] theorem ann34_s:ann34.imm=[]∧ann34.frz=[]∧ann34.live=lv34∧ann34.head=[(1,[1])]:=⟨rfl,rfl,rfl,rfl⟩
@[go_sem] def lv35:List (Nat×List Nat):=[(6,[2]),(5,[2]),(4,[3,10]),(3,[3]),(2,[2]),(1,[1,5]),(0,[1])]
def ann35:Ann:=⟨[1],[],lv35,[]⟩
@[go_sem] theorem ann35_s:ann35.imm=[1]∧ann35.frz=[]∧ann35.live=lv35∧ann35.head=[]:=⟨rfl,rfl,rfl,rfl⟩
def ann36:Ann:=⟨[1],[],[(1,[2]),(0,[1])],[]⟩
@[go_sem] theorem ann36_s:ann36.imm=[1]∧ann36.frz=[]∧ann36.live=[(1,[2]),(0,[1])]∧ann36.head=[]:=⟨rfl,rfl,rfl,rfl⟩
def ann37:Ann:=⟨[1],[],[(1,[2]),(0,[1])],[]⟩
@[go_sem] theorem ann37_s:ann37.imm=[1]∧ann37.frz=[]∧ann37.live=[(1,[2]),(0,[1])]∧ann37.head=[]:=⟨rfl,rfl,rfl,rfl⟩
@[go_sem] def lv38:List (Nat×List Nat):=[(10,[2,3,4]),(9,[2,3,4]),(8,[2,4,3,28]),(7,[2,4,3]),(6,[2,3,4,26]),(5,[2,3,4]),(2,[2,3,4]),(4,[2,3,4]),(3,[2,1,10]),(1,[2,1,5]),(0,[2,1])]
def ann38:Ann:=⟨[1],[],lv38,[]⟩
@[go_sem] theorem ann38_s:ann38.imm=[1]∧ann38.frz=[]∧ann38.live=lv38∧ann38.head=[]:=⟨rfl,rfl,rfl,rfl⟩
@[go_sem] def lv39:List (Nat×List Nat):=[(13,[2,3,4]),(12,[2,3,4]),(11,[2,6,9,40]),(10,[2,3,4]),(9,[2,6,9,7,38]),(8,[2,6,9,7]),(7,[2,3,4]),(6,[2,6,7,5,1,31]),(5,[2,6,7,5,1,8]),(4,[2,3,4]),(3,[2,1,20]),(2,[2,3,4]),(1,[2,1,12]),(0,[2,1])]
def ann39:Ann:=⟨[1],[],lv39,[]⟩
@[go_sem] theorem ann39_s:ann39.imm=[1]∧ann39.frz=[]∧ann39.live=lv39∧ann39.head=[]:=⟨rfl,rfl,rfl,rfl⟩
@[go_sem] def lv40:List (Nat×List Nat):=[(15,[2]),(14,[27,6,25,26]),(13,[6,25,26,27]),(12,[25,26,27,8,6]),(11,[25,26,27,6,28]),(10,[27,6,25,26]),(9,[6,0]),(8,[11,3,9,0,10]),(7,[3,9,0,10,11]),(6,[3,9,0,10,11,20]),(5,[3,9,0,10,11]),(4,[9,0,10,11,5,3]),(3,[9,0,10,11,3,12]),(2,[11,3,9,0,10]),(1,[3,0]),(0,[0])]
def ann40:Ann:=⟨[],[],lv40,[(11,[27,6,25,26]),(3,[11,3,9,0,10])]⟩
@[go_sem] theorem ann40_s:ann40.imm=[]∧ann40.frz=[]∧ann40.live=lv40∧ann40.head=[(11,[27,6,25,26]),(3,[11,3,9,0,10])]:=⟨rfl,rfl,rfl,rfl⟩
def ann45:Ann:=⟨[],[],[(1,[4]),(0,[1,0])],[]⟩
@[go_sem] theorem ann45_s:ann45.imm=[]∧ann45.frz=[]∧ann45.live=[(1,[4]),(0,[1,0])]∧ann45.head=[]:=⟨rfl,rfl,rfl,rfl⟩
@[go_sem] def lv49:List (Nat×List Nat):=[(12,[6]),(10,[7,2,1,3]),(11,[2,1,3,7]),(9,[2,3,7,1,45]),(8,[7,2,1,3]),(7,[2,1,3]),(6,[2,3,1,31]),(5,[2,3,1]),(4,[2,3,1,23]),(3,[2,3,1]),(2,[6]),(1,[2,3,1,18]),(0,[2,3,1])]
def ann49:Ann:=⟨[3],[],lv49,[(9,[7,2,1,3])]⟩
@[go_sem] theorem ann49_s:ann49.imm=[3]∧ann49.frz=[]∧ann49.live=lv49∧ann49.head=[(9,[7,2,1,3])]:=⟨rfl,rfl,rfl,rfl⟩
def ann50:Ann:=⟨[1],[],[(2,[2]),(1,[4]),(0,[1])],[]⟩
@[go_sem] theorem ann50_s:ann50.imm=[1]∧ann50.frz=[]∧ann50.live=[(2,[2]),(1,[4]),(0,[1])]∧ann50.head=[]:=⟨rfl,rfl,rfl,rfl⟩
def ann51:Ann:=⟨[1],[],[(3,[2,3]),(2,[5,4]),(1,[5,4,1]),(0,[1])],[]⟩
@[go_sem] theorem ann51_s:ann51.imm=[1]∧ann51.frz=[]∧ann51.live=[(3,[2,3]),(2,[5,4]),(1,[5,4,1]),(0,[1])]∧ann51.head=[]:=⟨rfl,rfl,rfl,rfl⟩
def ann52:Ann:=⟨[],[],[(1,[2]),(0,[0])],[]⟩
@[go_sem] theorem ann52_s:ann52.imm=[]∧ann52.frz=[]∧ann52.live=[(1,[2]),(0,[0])]∧ann52.head=[]:=⟨rfl,rfl,rfl,rfl⟩
def ann53:Ann:=⟨[2],[],[(3,[4,5]),(2,[4,5]),(1,[4,2,12]),(0,[4,2,1])],[]⟩
@[go_sem] theorem ann53_s:ann53.imm=[2]∧ann53.frz=[]∧ann53.live=[(3,[4,5]),(2,[4,5]),(1,[4,2,12]),(0,[4,2,1])]∧ann53.head=[]:=⟨rfl,rfl,rfl,rfl⟩
def ann54:Ann:=⟨[2,3],[],[(1,[4]),(0,[4,3,2])],[]⟩
@[go_sem] theorem ann54_s:ann54.imm=[2,3]∧ann54.frz=[]∧ann54.live=[(1,[4]),(0,[4,3,2])]∧ann54.head=[]:=⟨rfl,rfl,rfl,rfl⟩
@[go_sem] def lv55:List (Nat×List Nat):=[(21,[6,7]),(20,[6,74,8,4,5,3,72,73]),(19,[6,8,4,5,3,72,73,74]),(18,[6,7]),(17,[6,13,8,4,5,3,72,73,74,12,90]),(16,[6,13,8,4,5,3,72,73,74,12]),(15,[6,8,4,5,3,72,73,74,10,11]),(14,[6,8,4,5,3,72,73,74,75]),(13,[6,74,8,4,5,3,72,73]),(12,[6,7]),(11,[6,9,8,4,5,3,68]),(10,[6,9,8,4,5,3]),(9,[6,8,4,5,3,56]),(8,[6,7]),(7,[6,9,8,4,5,3,51]),(6,[6,9,8,4,5,3]),(5,[6,8,4,5,3,39]),(4,[6,8,4,5,3]),(3,[6,8,4,5,3]),(2,[6,7]),(1,[6,5,4,3,16]),(0,[6,5,4,3])]
def ann55:Ann:=⟨[3,4,5],[],lv55,[(14,[6,74,8,4,5,3,72,73])]⟩
@[go_sem] theorem ann55_s:ann55.imm=[3,4,5]∧ann55.frz=[]∧ann55.live=lv55∧ann55.head=[(14,[6,74,8,4,5,3,72,73])]:=⟨rfl,rfl,rfl,rfl⟩
def ann56:Ann:=⟨[2,3],[],[(1,[4,5]),(0,[4,2])],[]⟩
@[go_sem] theorem ann56_s:ann56.imm=[2,3]∧ann56.frz=[]∧ann56.live=[(1,[4,5]),(0,[4,2])]∧ann56.head=[]:=⟨rfl,rfl,rfl,rfl⟩
@[go_sem] def lv57:List (Nat×List Nat):=[(9,[6,7]),(8,[6,7]),(7,[6,5,4,3,27]),(6,[6,5,4,3,8]),(5,[6,5,4,3,8]),(4,[6,7]),(3,[6,5,4,3,22]),(2,[6,7]),(1,[6,5,4,3,11]),(0,[6,5,4,3])]
def ann57:Ann:=⟨[3,4,5],[],lv57,[]⟩
@[go_sem] theorem ann57_s:ann57.imm=[3,4,5]∧ann57.frz=[]∧ann57.live=lv57∧ann57.head=[]:=⟨rfl,rfl,rfl,rfl⟩
@[go_sem] def lv58:List (Nat×List Nat):=[(5,[5,6]),(2,[5,6]),(4,[5,0]),(3,[5,0,22]),(1,[5,2,4,0,7]),(0,[5,2,4,0])]
def ann58:Ann:=⟨[4],[],lv58,[]⟩
@[go_sem] theorem ann58_s:ann58.imm=[4]∧ann58.frz=[]∧ann58.live=lv58∧ann58.head=[]:=⟨rfl,rfl,rfl,rfl⟩
def ann59:Ann:=⟨[],[],[(1,[4]),(0,[1,0])],[]⟩
@[go_sem] theorem ann59_s:ann59.imm=[]∧ann59.frz=[]∧ann59.live=[(1,[4]),(0,[1,0])]∧ann59.head=[]:=⟨rfl,rfl,rfl,rfl⟩
def ann61:Ann:=⟨[1],[],[(1,[2]),(0,[1])],[]⟩
@[go_sem] theorem ann61_s:ann61.imm=[1]∧ann61.frz=[]∧ann61.live=[(1,[2]),(0,[1])]∧ann61.head=[]:=⟨rfl,rfl,rfl,rfl⟩
@[go_sem] def lv62:List (Nat×List Nat):=[(8,[4]),(5,[5,3,2]),(7,[4]),(6,[3,2,5,31]),(4,[3,2,5,17]),(3,[5,3,2]),(2,[4]),(1,[3,2,12]),(0,[3,2])]
def ann62:Ann:=⟨[2,3],[],lv62,[(4,[5,3,2])]⟩
@[go_sem] theorem ann62_s:ann62.imm=[2,3]∧ann62.frz=[]∧ann62.live=lv62∧ann62.head=[(4,[5,3,2])]:=⟨rfl,rfl,rfl,rfl⟩
@[go_sem] def lv63:List (Nat×List Nat):=[(8,[4]),(5,[5,1,0]),(7,[4]),(6,[1,0,5,25]),(4,[1,0,5,14]),(3,[5,1,0]),(2,[4]),(1,[1,0,10]),(0,[1,0])]
def ann63:Ann:=⟨[],[],lv63,[(4,[5,1,0])]⟩
@[go_sem] theorem ann63_s:ann63.imm=[]∧ann63.frz=[]∧ann63.live=lv63∧ann63.head=[(4,[5,1,0])]:=⟨rfl,rfl,rfl,rfl⟩
@[go_sem] def lv64:List (Nat×List Nat):=[(8,[4]),(5,[5,3,2]),(7,[4]),(6,[3,2,5,68]),(4,[3,2,5,54]),(3,[5,3,2]),(2,[4]),(1,[3,2,49]),(0,[3,2])]
def ann64:Ann:=⟨[2,3],[],lv64,[(4,[5,3,2])]⟩
@[go_sem] theorem ann64_s:ann64.imm=[2,3]∧ann64.frz=[]∧ann64.live=lv64∧ann64.head=[(4,[5,3,2])]:=⟨rfl,rfl,rfl,rfl⟩
def ann65:Ann:=⟨[1],[],[(1,[2]),(0,[1])],[]⟩
@[go_sem] theorem ann65_s:ann65.imm=[1]∧ann65.frz=[]∧ann65.live=[(1,[2]),(0,[1])]∧ann65.head=[]:=⟨rfl,rfl,rfl,rfl⟩
def ann66:Ann:=⟨[1],[],[(1,[2]),(0,[1])],[]⟩
@[go_sem] theorem ann66_s:ann66.imm=[1]∧ann66.frz=[]∧ann66.live=[(1,[2]),(0,[1])]∧ann66.head=[]:=⟨rfl,rfl,rfl,rfl⟩
def ann67:Ann:=⟨[3,4],[],[(1,[5,6]),(0,[5,4,2,3])],[]⟩
@[go_sem] theorem ann67_s:ann67.imm=[3,4]∧ann67.frz=[]∧ann67.live=[(1,[5,6]),(0,[5,4,2,3])]∧ann67.head=[]:=⟨rfl,rfl,rfl,rfl⟩
@[go_sem] def lv68:List (Nat×List Nat):=[(23,[6]),(22,[72,10,2,1,70,6,71]),(21,[10,2,1,70,6,71,72]),(20,[10,2,1,70,6,71,72,12]),(19,[10,2,1,70,6,71,72,73]),(18,[72,10,2,1,70,6,71]),(17,[10,2,1,6,3]),(16,[10,1,6,3,2,62]),(15,[10,1,6,3,2,62,61]),(14,[10,1,6,3,2,62,61]),(13,[10,1,6,3,2,62,61]),(12,[10,1,6,3,2,61]),(11,[10,1,6,3,2]),(10,[6]),(9,[6]),(8,[6]),(7,[6,8,44]),(6,[6,8,9]),(3,[6,3]),(5,[6,2,7,1,3,29]),(4,[6,3,2,7,1,26]),(2,[6,3,2,7,1]),(1,[6,3,2,1,15]),(0,[6,3,2,1])]
def ann68:Ann:=⟨[],[],lv68,[(19,[72,10,2,1,70,6,71])]⟩
@[go_sem] theorem ann68_s:ann68.imm=[]∧ann68.frz=[]∧ann68.live=lv68∧ann68.head=[(19,[72,10,2,1,70,6,71])]:=⟨rfl,rfl,rfl,rfl⟩
def ann69:Ann:=⟨[3],[],[(1,[4,5]),(0,[4,0])],[]⟩
@[go_sem] theorem ann69_s:ann69.imm=[3]∧ann69.frz=[]∧ann69.live=[(1,[4,5]),(0,[4,0])]∧ann69.head=[]:=⟨rfl,rfl,rfl,rfl⟩
@[go_sem] def lv71:List (Nat×List Nat):=[(7,[4]),(6,[8,0,1,7]),(5,[4]),(4,[5,0,1,7,8,16]),(3,[5,0,1,7,8]),(2,[0,1,7,8,9]),(1,[8,0,1,7]),(0,[0,1])]
def ann71:Ann:=⟨[],[],lv71,[(2,[8,0,1,7])]⟩
@[go_sem] theorem ann71_s:ann71.imm=[]∧ann71.frz=[]∧ann71.live=lv71∧ann71.head=[(2,[8,0,1,7])]:=⟨rfl,rfl,rfl,rfl⟩
def ann72:Ann:=⟨[],[],[(1,[6]),(0,[6,2,1,0])],[]⟩
@[go_sem] theorem ann72_s:ann72.imm=[]∧ann72.frz=[]∧ann72.live=[(1,[6]),(0,[6,2,1,0])]∧ann72.head=[]:=⟨rfl,rfl,rfl,rfl⟩
@[go_sem] def lv73:List (Nat×List Nat):=[(6,[6,1,4,3,2]),(7,[1,4,3,2,6]),(5,[1,4,3,2,6,49]),(4,[6,1,4,3,2]),(3,[]),(2,[2,1,4,3,40]),(1,[2,1,4,3]),(0,[2,1,4,3])]
def ann73:Ann:=⟨[4],[],lv73,[(5,[6,1,4,3,2])]⟩
@[go_sem] theorem ann73_s:ann73.imm=[4]∧ann73.frz=[]∧ann73.live=lv73∧ann73.head=[(5,[6,1,4,3,2])]:=⟨rfl,rfl,rfl,rfl⟩
def ann74:Ann:=⟨[],[],[(1,[2]),(0,[0])],[]⟩
@[go_sem] theorem ann74_s:ann74.imm=[]∧ann74.frz=[]∧ann74.live=[(1,[2]),(0,[0])]∧ann74.head=[]:=⟨rfl,rfl,rfl,rfl⟩
@[go_sem] def lv75:List (Nat×List Nat):=[(8,[7,1,5,4,2]),(9,[1,5,4,2,7]),(7,[1,5,4,2,7,58]),(6,[7,1,5,4,2]),(5,[1,5,4,2]),(4,[1,5,4,2,3]),(3,[]),(2,[2,1,5,4,3,41]),(1,[2,1,5,4,3]),(0,[2,1,5,4,3])]
def ann75:Ann:=⟨[5],[],lv75,[(7,[7,1,5,4,2])]⟩
@[go_sem] theorem ann75_s:ann75.imm=[5]∧ann75.frz=[]∧ann75.live=lv75∧ann75.head=[(7,[7,1,5,4,2])]:=⟨rfl,rfl,rfl,rfl⟩
def ann76:Ann:=⟨[],[],[(1,[2]),(0,[0])],[]⟩
@[go_sem] theorem ann76_s:ann76.imm=[]∧ann76.frz=[]∧ann76.live=[(1,[2]),(0,[0])]∧ann76.head=[]:=⟨rfl,rfl,rfl,rfl⟩
def ann77:Ann:=⟨[1],[],[(2,[2]),(1,[4,3,5]),(0,[1])],[]⟩
@[go_sem] theorem ann77_s:ann77.imm=[1]∧ann77.frz=[]∧ann77.live=[(2,[2]),(1,[4,3,5]),(0,[1])]∧ann77.head=[]:=⟨rfl,rfl,rfl,rfl⟩
@[go_sem] def lv78:List (Nat×List Nat):=[(13,[6,7,8,9]),(12,[6,8,7,3,2,1]),(11,[6,8,7,3,2,1]),(10,[6,7,3,2,1,8]),(5,[6,7,8,9]),(7,[6,7,8,9]),(9,[6,7,8,9]),(8,[6,3,2,1,8,11,7,10,36]),(6,[6,8,7,3,2,1,11,10,30]),(4,[6,12,8,7,3,2,1,11,10,25]),(3,[6,12,8,7,3,2,1,11,10]),(2,[6,8,7,3,2,1,18]),(1,[6,8,7,3,2,1]),(0,[6,8,7,3,2,1])]
def ann78:Ann:=⟨[],[],lv78,[(2,[6,8,7,3,2,1])]⟩
@[go_sem] theorem ann78_s:ann78.imm=[]∧ann78.frz=[]∧ann78.live=lv78∧ann78.head=[(2,[6,8,7,3,2,1])]:=⟨rfl,rfl,rfl,rfl⟩
def ann79:Ann:=⟨[1],[],[(2,[2]),(1,[2,3]),(0,[2,1])],[]⟩
@[go_sem] theorem ann79_s:ann79.imm=[1]∧ann79.frz=[]∧ann79.live=[(2,[2]),(1,[2,3]),(0,[2,1])]∧ann79.head=[]:=⟨rfl,rfl,rfl,rfl⟩
def ann80:Ann:=⟨[1],[],[(0,[])],[]⟩
@[go_sem] theorem ann80_s:ann80.imm=[1]∧ann80.frz=[]∧ann80.live=[(0,[])]∧ann80.head=[]:=⟨rfl,rfl,rfl,rfl⟩
def ann81:Ann:=⟨[2],[3000008,5000001],[(1,[]),(0,[1,2])],[]⟩
@[go_sem] theorem ann81_s:ann81.imm=[2]∧ann81.frz=[3000008,5000001]∧ann81.live=[(1,[]),(0,[1,2])]∧ann81.head=[]:=⟨rfl,rfl,rfl,rfl⟩
def ann82:Ann:=⟨[1],[],[(1,[2]),(0,[1])],[]⟩
@[go_sem] theorem ann82_s:ann82.imm=[1]∧ann82.frz=[]∧ann82.live=[(1,[2]),(0,[1])]∧ann82.head=[]:=⟨rfl,rfl,rfl,rfl⟩
@[go_sem] def lv83:List (Nat×List Nat):=[(14,[2]),(6,[2]),(8,[2]),(13,[2]),(12,[1,17]),(11,[1,17,4]),(10,[1,17,4]),(9,[1,17,4]),(7,[1,4,10]),(5,[1,4,5]),(4,[1,4,5]),(3,[1,4,5]),(2,[1,4,5]),(1,[1,4]),(0,[1])]
def ann83:Ann:=⟨[1],[],lv83,[]⟩
@[go_sem] theorem ann83_s:ann83.imm=[1]∧ann83.frz=[]∧ann83.live=lv83∧ann83.head=[]:=⟨rfl,rfl,rfl,rfl⟩
@[go_sem] def lv84:List (Nat×List Nat):=[(7,[2]),(6,[6,1,5]),(5,[2]),(4,[3,1,5,6,15]),(3,[3,1,5,6]),(2,[1,5,6,7]),(1,[6,1,5]),(0,[1])]
def ann84:Ann:=⟨[1],[],lv84,[(2,[6,1,5])]⟩
@[go_sem] theorem ann84_s:ann84.imm=[1]∧ann84.frz=[]∧ann84.live=lv84∧ann84.head=[(2,[6,1,5])]:=⟨rfl,rfl,rfl,rfl⟩
@[go_sem] def lv85:List (Nat×List Nat):=[(19,[2]),(6,[2]),(8,[2]),(18,[2]),(15,[3,1]),(17,[2]),(16,[1,3,45]),(14,[1,3,36]),(13,[3,1]),(12,[1,27]),(11,[1,27,5]),(10,[1,27,5]),(9,[1,27,5]),(7,[1,5,11]),(5,[1,5,6]),(4,[1,5,6]),(3,[1,5,6]),(2,[1,5,6]),(1,[1,5]),(0,[1])]
def ann85:Ann:=⟨[1],[],lv85,[(14,[3,1])]⟩
@[go_sem] theorem ann85_s:ann85.imm=[1]∧ann85.frz=[]∧ann85.live=lv85∧ann85.head=[(14,[3,1])]:=⟨rfl,rfl,rfl,rfl⟩
@[go_sem] def lv86:List (Nat×List Nat):=[(6,[2]),(3,[2,3,1]),(5,[2]),(4,[2,3,1,16]),(2,[2,3,1,7]),(1,[2,3,1]),(0,[2,1])]
def ann86:Ann:=⟨[1],[],lv86,[(2,[2,3,1])]⟩
@[go_sem] theorem ann86_s:ann86.imm=[1]∧ann86.frz=[]∧ann86.live=lv86∧ann86.head=[(2,[2,3,1])]:=⟨rfl,rfl,rfl,rfl⟩
@[go_sem] def lv87:List (Nat×List Nat):=[(12,[2,3,4]),(11,[2,3]),(10,[2,3,6,5]),(9,[2,3,6,5,1]),(8,[2,3,4]),(7,[2,4,3,6,5,1,31]),(6,[2,4,3,6,5,1]),(5,[2,3,4]),(4,[2,3,4]),(3,[2,1,13]),(2,[2,1,5,10]),(1,[2,1,5]),(0,[2,1])]
def ann87:Ann:=⟨[1],[9000037,2000011,7000011,2000012,8000012],lv87,[]⟩
@[go_sem] theorem ann87_s:ann87.imm=[1]∧ann87.frz=[9000037,2000011,7000011,2000012,8000012]∧ann87.live=lv87∧ann87.head=[]:=⟨rfl,rfl,rfl,rfl⟩
@[go_sem] def lv88:List (Nat×List Nat):=[(33,[2,3,4,5]),(11,[2,3,4,5]),(10,[2,1,6,58]),(9,[2,3,4,5]),(8,[2,1,6,38]),(16,[2,3,4,5]),(15,[2,6,1,94]),(14,[2,3,4,5]),(13,[2,1,6,75]),(19,[2,3,4,5]),(18,[2,6,1,109]),(23,[2,3,4,5]),(22,[2,7,6,136]),(21,[2,7,6]),(27,[2,3,4,5]),(26,[2,6,8,1,155]),(25,[2,6,8,1]),(30,[2,3,4,5]),(29,[2,6,171]),(32,[2,3,4,5]),(31,[2,6,1,176]),(28,[2,6,1,33,167]),(24,[2,6,1,33,142]),(20,[2,6,1,33,123]),(17,[2,6,1,33,105]),(12,[2,1,6,33,71]),(7,[2,1,6,33,34]),(6,[2,1,6,33]),(5,[2,1,6]),(4,[2,3,4,5]),(3,[2,1,26]),(2,[2,3,4,5]),(1,[2,1,11]),(0,[2,1])]
def ann88:Ann:=⟨[1],[],lv88,[]⟩
@[go_sem] theorem ann88_s:ann88.imm=[1]∧ann88.frz=[]∧ann88.live=lv88∧ann88.head=[]:=⟨rfl,rfl,rfl,rfl⟩
@[go_sem] def lv89:List (Nat×List Nat):=[(9,[4]),(3,[4,3,5,2]),(8,[4]),(7,[4,6]),(6,[4,6,3,5,2]),(5,[4,6,3,5,2]),(4,[4,3,5,2,19]),(2,[4,3,5,2,10]),(1,[4,3,5,2]),(0,[4,3,2])]
def ann89:Ann:=⟨[2,3],[1000024,2000007,7000007,2000008,8000008],lv89,[(2,[4,3,5,2])]⟩
@[go_sem] theorem ann89_s:ann89.imm=[2,3]∧ann89.frz=[1000024,2000007,7000007,2000008,8000008]∧ann89.live=lv89∧ann89.head=[(2,[4,3,5,2])]:=⟨rfl,rfl,rfl,rfl⟩
@[go_sem] def lv91:List (Nat×List Nat):=[(7,[4]),(6,[8,0,1,7]),(5,[4]),(4,[5,0,1,7,8,16]),(3,[5,0,1,7,8]),(2,[0,1,7,8,9]),(1,[8,0,1,7]),(0,[0,1])]
def ann91:Ann:=⟨[],[],lv91,[(2,[8,0,1,7])]⟩
@[go_sem] theorem ann91_s:ann91.imm=[]∧ann91.frz=[]∧ann91.live=lv91∧ann91.head=[(2,[8,0,1,7])]:=⟨rfl,rfl,rfl,rfl⟩
@[go_sem] def lv92:List (Nat×List Nat):=[(19,[2]),(18,[2]),(17,[1,120]),(16,[2]),(15,[1,99]),(8,[2]),(7,[1,50]),(11,[2]),(10,[1,72]),(14,[2]),(13,[1,78]),(5,[2]),(4,[1,35]),(12,[1,73]),(9,[1,22,51]),(6,[1,22,36]),(3,[1,22]),(2,[2]),(1,[1,20]),(0,[1])]
def ann92:Ann:=⟨[1],[],lv92,[]⟩
@[go_sem] theorem ann92_s:ann92.imm=[1]∧ann92.frz=[]∧ann92.live=lv92∧ann92.head=[]:=⟨rfl,rfl,rfl,rfl⟩
@[go_sem] def lv93:List (Nat×List Nat):=[(10,[2]),(9,[2]),(8,[4]),(7,[4,3]),(6,[4,3]),(5,[4,3]),(4,[4,3]),(3,[4,3]),(2,[4,3]),(1,[3]),(0,[0])]
def ann93:Ann:=⟨[],[],lv93,[]⟩
@[go_sem] theorem ann93_s:ann93.imm=[]∧ann93.frz=[]∧ann93.live=lv93∧ann93.head=[]:=⟨rfl,rfl,rfl,rfl⟩
@[go_sem] def lv94:List (Nat×List Nat):=[(6,[2]),(4,[4,1,3]),(5,[1,3,4]),(3,[1,4,3,9]),(2,[4,1,3]),(1,[1,3]),(0,[1])]
def ann94:Ann:=⟨[1],[],lv94,[(3,[4,1,3])]⟩
@[go_sem] theorem ann94_s:ann94.imm=[1]∧ann94.frz=[]∧ann94.live=lv94∧ann94.head=[(3,[4,1,3])]:=⟨rfl,rfl,rfl,rfl⟩
@[go_sem] def lv95:List (Nat×List Nat):=[(16,[6,7]),(15,[43,8,2,1,41,42]),(14,[8,2,1,41,42,43]),(13,[6,7]),(12,[2,1,41,42,43,11,8,58]),(11,[2,1,41,42,43,11,8,12]),(10,[2,1,41,42,43,8,10]),(9,[2,1,41,42,43,8,44]),(8,[43,8,2,1,41,42]),(7,[8,2,1,3]),(6,[2,1,3,8,34]),(5,[2,1,3,8]),(4,[2,1,3,8,26]),(3,[2,1,3,8]),(2,[6,7]),(1,[2,1,3,23]),(0,[2,1,3])]
def ann95:Ann:=⟨[3],[],lv95,[(9,[43,8,2,1,41,42])]⟩
@[go_sem] theorem ann95_s:ann95.imm=[3]∧ann95.frz=[]∧ann95.live=lv95∧ann95.head=[(9,[43,8,2,1,41,42])]:=⟨rfl,rfl,rfl,rfl⟩
@[go_sem] def lv96:List (Nat×List Nat):=[(11,[37,3,2,5,4,35,36]),(10,[3,2,5,4,35,36,37]),(9,[3,2,5,4,35,36,37,9,8]),(8,[3,2,5,4,35,36,37,38]),(7,[37,3,2,5,4,35,36]),(6,[3,2,5,4]),(5,[3,2,5,4,28]),(4,[3,2,5,4]),(3,[3,2,5,4,20]),(2,[3,2,5,4]),(1,[3,2,5,4,12]),(0,[3,2,5,4])]
def ann96:Ann:=⟨[4,5],[],lv96,[(8,[37,3,2,5,4,35,36])]⟩
@[go_sem] theorem ann96_s:ann96.imm=[4,5]∧ann96.frz=[]∧ann96.live=lv96∧ann96.head=[(8,[37,3,2,5,4,35,36])]:=⟨rfl,rfl,rfl,rfl⟩
@[go_sem] def lv97:List (Nat×List Nat):=[(7,[16,4,2,14,15]),(6,[4,2,14,15,16]),(5,[4,2,14,15,16,8,23]),(4,[4,2,14,15,16,8]),(3,[4,2,14,15,16,17]),(2,[16,4,2,14,15]),(1,[4,2,5]),(0,[4,2,3])]
def ann97:Ann:=⟨[3,4],[],lv97,[(3,[16,4,2,14,15])]⟩
@[go_sem] theorem ann97_s:ann97.imm=[3,4]∧ann97.frz=[]∧ann97.live=lv97∧ann97.head=[(3,[16,4,2,14,15])]:=⟨rfl,rfl,rfl,rfl⟩
def ann99:Ann:=⟨[4],[],[(2,[]),(1,[4,0,2,8]),(0,[4,0,2])],[]⟩
@[go_sem] theorem ann99_s:ann99.imm=[4]∧ann99.frz=[]∧ann99.live=[(2,[]),(1,[4,0,2,8]),(0,[4,0,2])]∧ann99.head=[]:=⟨rfl,rfl,rfl,rfl⟩
def ann101:Ann:=⟨[3,4],[],[(1,[5,6]),(0,[5,4,2,3])],[]⟩
@[go_sem] theorem ann101_s:ann101.imm=[3,4]∧ann101.frz=[]∧ann101.live=[(1,[5,6]),(0,[5,4,2,3])]∧ann101.head=[]:=⟨rfl,rfl,rfl,rfl⟩
@[go_sem] def lv102:List (Nat×List Nat):=[(3,[5,6]),(2,[5,0]),(1,[5,2,0,10]),(0,[5,2,0,4])]
def ann102:Ann:=⟨[4],[],lv102,[]⟩
@[go_sem] theorem ann102_s:ann102.imm=[4]∧ann102.frz=[]∧ann102.live=lv102∧ann102.head=[]:=⟨rfl,rfl,rfl,rfl⟩
@[go_sem] def lv104:List (Nat×List Nat):=[(10,[2]),(9,[2]),(8,[4]),(7,[4,3]),(6,[4,3]),(5,[4,3]),(4,[4,3]),(3,[4,3]),(2,[4,3]),(1,[3]),(0,[0])]
def ann104:Ann:=⟨[],[],lv104,[]⟩
@[go_sem] theorem ann104_s:ann104.imm=[]∧ann104.frz=[]∧ann104.live=lv104∧ann104.head=[]:=⟨rfl,rfl,rfl,rfl⟩
@[go_sem] def lv105:List (Nat×List Nat):=[(14,[6]),(3,[6,3]),(6,[6,3]),(8,[6,3]),(11,[6,3]),(10,[6,3,2]),(13,[6,3]),(12,[6,3,2,42]),(9,[6,3,2,8,30]),(7,[6,3,2,8,22]),(5,[6,3,2,8,15]),(4,[6,3,2,8,15]),(2,[6,3,2,8,9]),(1,[6,3,2,8]),(0,[6,3,2,4])]
def ann105:Ann:=⟨[4],[],lv105,[]⟩
@[go_sem] theorem ann105_s:ann105.imm=[4]∧ann105.frz=[]∧ann105.live=lv105∧ann105.head=[]:=⟨rfl,rfl,rfl,rfl⟩
@[go_sem] def lv106:List (Nat×List Nat):=[(9,[27,2,1,25,26]),(8,[2,1,25,26,27]),(7,[2,1,25,26,27,7]),(6,[2,1,25,26,27,28]),(5,[27,2,1,25,26]),(4,[2,1,3]),(3,[2,3,1,21]),(2,[2,3,1]),(1,[2,3,1,15]),(0,[2,3,1])]
def ann106:Ann:=⟨[3],[],lv106,[(6,[27,2,1,25,26])]⟩
@[go_sem] theorem ann106_s:ann106.imm=[3]∧ann106.frz=[]∧ann106.live=lv106∧ann106.head=[(6,[27,2,1,25,26])]:=⟨rfl,rfl,rfl,rfl⟩
@[go_sem] def lv107:List (Nat×List Nat):=[(3,[]),(2,[4,26]),(1,[4,2,3,7,5]),(0,[4,2,3,5,1])]
def ann107:Ann:=⟨[5],[],lv107,[]⟩
@[go_sem] theorem ann107_s:ann107.imm=[5]∧ann107.frz=[]∧ann107.live=lv107∧ann107.head=[]:=⟨rfl,rfl,rfl,rfl⟩
def ann109:Ann:=⟨[2,3],[],[(1,[4]),(0,[3,2])],[]⟩
@[go_sem] theorem ann109_s:ann109.imm=[2,3]∧ann109.frz=[]∧ann109.live=[(1,[4]),(0,[3,2])]∧ann109.head=[]:=⟨rfl,rfl,rfl,rfl⟩
@[go_sem] def lv110:List (Nat×List Nat):=[(7,[4]),(6,[8,0,1,7]),(5,[4]),(4,[5,0,1,7,8,16]),(3,[5,0,1,7,8]),(2,[0,1,7,8,9]),(1,[8,0,1,7]),(0,[0,1])]
def ann110:Ann:=⟨[],[],lv110,[(2,[8,0,1,7])]⟩
@[go_sem] theorem ann110_s:ann110.imm=[]∧ann110.frz=[]∧ann110.live=lv110∧ann110.head=[(2,[8,0,1,7])]:=⟨rfl,rfl,rfl,rfl⟩
def ann111:Ann:=⟨[1],[],[(1,[2]),(0,[1])],[]⟩
@[go_sem] theorem ann111_s:ann111.imm=[1]∧ann111.frz=[]∧ann111.live=[(1,[2]),(0,[1])]∧ann111.head=[]:=⟨rfl,rfl,rfl,rfl⟩
@[go_sem] def lv112:List (Nat×List Nat):=[(8,[2]),(5,[3,1]),(7,[2]),(6,[1,3,20]),(4,[1,3,11]),(3,[3,1]),(2,[2]),(1,[1,6]),(0,[1])]
def ann112:Ann:=⟨[1],[],lv112,[(4,[3,1])]⟩
@[go_sem] theorem ann112_s:ann112.imm=[1]∧ann112.frz=[]∧ann112.live=lv112∧ann112.head=[(4,[3,1])]:=⟨rfl,rfl,rfl,rfl⟩
@[go_sem] def lv113:List (Nat×List Nat):=[(7,[2]),(6,[9,3,7,8]),(5,[3,7,8,9]),(4,[7,8,9,5,3]),(3,[7,8,9,3,10]),(2,[9,3,7,8]),(1,[3,1]),(0,[1])]
def ann113:Ann:=⟨[1],[],lv113,[(3,[9,3,7,8])]⟩
@[go_sem] theorem ann113_s:ann113.imm=[1]∧ann113.frz=[]∧ann113.live=lv113∧ann113.head=[(3,[9,3,7,8])]:=⟨rfl,rfl,rfl,rfl⟩
@[go_sem] def lv114:List (Nat×List Nat):=[(7,[2]),(6,[9,3,7,8]),(5,[3,7,8,9]),(4,[7,8,9,5,3]),(3,[7,8,9,3,10]),(2,[9,3,7,8]),(1,[3,1]),(0,[1])]
def ann114:Ann:=⟨[1],[],lv114,[(3,[9,3,7,8])]⟩
@[go_sem] theorem ann114_s:ann114.imm=[1]∧ann114.frz=[]∧ann114.live=lv114∧ann114.head=[(3,[9,3,7,8])]:=⟨rfl,rfl,rfl,rfl⟩
@[go_sem] def lv115:List (Nat×List Nat):=[(17,[2]),(16,[2]),(15,[1,95]),(14,[2]),(13,[1,69]),(12,[1,3]),(11,[2]),(10,[1,44]),(9,[2]),(8,[1,25]),(5,[2]),(4,[1,14]),(7,[1,15]),(6,[1,15,11]),(3,[1,11]),(2,[2]),(1,[1,9]),(0,[1])]
def ann115:Ann:=⟨[1],[],lv115,[]⟩
@[go_sem] theorem ann115_s:ann115.imm=[1]∧ann115.frz=[]∧ann115.live=lv115∧ann115.head=[]:=⟨rfl,rfl,rfl,rfl⟩
def ann117:Ann:=⟨[1],[],[(1,[2]),(0,[1])],[]⟩
@[go_sem] theorem ann117_s:ann117.imm=[1]∧ann117.frz=[]∧ann117.live=[(1,[2]),(0,[1])]∧ann117.head=[]:=⟨rfl,rfl,rfl,rfl⟩
def ann118:Ann:=⟨[1],[],[(1,[2]),(0,[1])],[]⟩
@[go_sem] theorem ann118_s:ann118.imm=[1]∧ann118.frz=[]∧ann118.live=[(1,[2]),(0,[1])]∧ann118.head=[]:=⟨rfl,rfl,rfl,rfl⟩
def ann119:Ann:=⟨[1],[],[(1,[2]),(0,[1])],[]⟩
@[go_sem] theorem ann119_s:ann119.imm=[1]∧ann119.frz=[]∧ann119.live=[(1,[2]),(0,[1])]∧ann119.head=[]:=⟨rfl,rfl,rfl,rfl⟩
def ann120:Ann:=⟨[1],[],[(1,[2]),(0,[1])],[]⟩
@[go_sem] theorem ann120_s:ann120.imm=[1]∧ann120.frz=[]∧ann120.live=[(1,[2]),(0,[1])]∧ann120.head=[]:=⟨rfl,rfl,rfl,rfl⟩
@[go_sem] def lv121:List (Nat×List Nat):=[(16,[2]),(5,[2]),(15,[2]),(14,[12]),(13,[12,4]),(12,[12,4]),(11,[12,4]),(10,[12,4]),(9,[12,4]),(8,[12,4]),(7,[12,4]),(6,[12,4]),(4,[1,4,5]),(3,[1,4,5]),(2,[1,4,5]),(1,[1,4]),(0,[1])]
def ann121:Ann:=⟨[1],[],lv121,[]⟩
@[go_sem] theorem ann121_s:ann121.imm=[1]∧ann121.frz=[]∧ann121.live=lv121∧ann121.head=[]:=⟨rfl,rfl,rfl,rfl⟩
@[go_sem] def lv122:List (Nat×List Nat):=[(16,[2]),(5,[2]),(15,[2]),(14,[12]),(13,[12,4]),(12,[12,4]),(11,[12,4]),(10,[12,4]),(9,[12,4]),(8,[12,4]),(7,[12,4]),(6,[12,4]),(4,[1,4,5]),(3,[1,4,5]),(2,[1,4,5]),(1,[1,4]),(0,[1])]
def ann122:Ann:=⟨[1],[],lv122,[]⟩
@[go_sem] theorem ann122_s:ann122.imm=[1]∧ann122.frz=[]∧ann122.live=lv122∧ann122.head=[]:=⟨rfl,rfl,rfl,rfl⟩
@[go_sem] def lv123:List (Nat×List Nat):=[(23,[2,3,4]),(8,[2,4]),(10,[2,4]),(12,[2,4]),(16,[2,4]),(15,[2,5,4,80]),(14,[2,5,4]),(18,[2,4]),(20,[2,4]),(22,[2,4]),(6,[2,4]),(21,[2,4,5,149]),(19,[2,5,1,4,115]),(17,[2,4,1,5,90]),(13,[2,5,1,4,59]),(11,[2,5,1,4,46]),(9,[2,1,5,4,35]),(7,[2,1,5,4,22]),(5,[2,1,5,4]),(4,[2,3,4]),(3,[2,1,4,16]),(2,[2,3,4]),(1,[2,1,4,8]),(0,[2,1,4])]
def ann123:Ann:=⟨[1],[],lv123,[]⟩
@[go_sem] theorem ann123_s:ann123.imm=[1]∧ann123.frz=[]∧ann123.live=lv123∧ann123.head=[]:=⟨rfl,rfl,rfl,rfl⟩
@[go_sem] def lv125:List (Nat×List Nat):=[(47,[2,3,4,5]),(13,[2,10]),(15,[2,10]),(19,[2,10]),(18,[2,10,9,8,90]),(17,[2,10,9,8]),(24,[2,10]),(26,[2,10]),(25,[2,10,9,8,118]),(23,[2,10,9,8,109]),(22,[2,10,9,8,1]),(28,[2,10]),(30,[2,10]),(32,[2,10]),(34,[2,10]),(38,[2,10]),(37,[2,10,9,8,166]),(36,[2,10,9,8]),(40,[2,10]),(42,[2,10]),(44,[2,10]),(46,[2,3,4,5]),(45,[2,8,10,193]),(43,[2,10,8,58,187]),(41,[2,10,9,8,58,179]),(39,[2,10,8,9,58,173]),(35,[2,10,9,8,58,155]),(33,[2,10,9,8,58,147]),(31,[2,10,9,8,58,139]),(29,[2,10,9,8,58,131]),(27,[2,10,8,9,58,125]),(21,[2,10,9,8,1,58,97]),(20,[2,10,9,8,1,58,97]),(16,[2,10,9,8,1,58,75]),(14,[2,10,9,8,1,58,67]),(12,[2,10,9,8,1,58,59]),(11,[2,10,9,8,1,58]),(10,[2,10,9,8,1]),(9,[2,9,8,1]),(6,[2,7,6,1]),(8,[2,3,4,5]),(7,[2,6,1,7,43]),(5,[2,6,1,7,33]),(4,[2,7,6,1]),(3,[2,6,1]),(2,[2,1,6,28]),(1,[2,1,6]),(0,[2,1])]
def ann125:Ann:=⟨[1],[],lv125,[(5,[2,7,6,1])]⟩
@[go_sem] theorem ann125_s:ann125.imm=[1]∧ann125.frz=[]∧ann125.live=lv125∧ann125.head=[(5,[2,7,6,1])]:=⟨rfl,rfl,rfl,rfl⟩
def ann126:Ann:=⟨[2,3],[],[(1,[4]),(0,[4,3,2])],[]⟩
@[go_sem] theorem ann126_s:ann126.imm=[2,3]∧ann126.frz=[]∧ann126.live=[(1,[4]),(0,[4,3,2])]∧ann126.head=[]:=⟨rfl,rfl,rfl,rfl⟩
def ann127:Ann:=⟨[2],[],[(1,[4]),(0,[4,1,2])],[]⟩
@[go_sem] theorem ann127_s:ann127.imm=[2]∧ann127.frz=[]∧ann127.live=[(1,[4]),(0,[4,1,2])]∧ann127.head=[]:=⟨rfl,rfl,rfl,rfl⟩
@[go_sem] def lv128:List (Nat×List Nat):=[(6,[4]),(3,[5,1,0]),(5,[4]),(4,[5,1,0,17]),(2,[5,1,0,9]),(1,[5,1,0]),(0,[1,0])]
def ann128:Ann:=⟨[],[],lv128,[(2,[5,1,0])]⟩
@[go_sem] theorem ann128_s:ann128.imm=[]∧ann128.frz=[]∧ann128.live=lv128∧ann128.head=[(2,[5,1,0])]:=⟨rfl,rfl,rfl,rfl⟩
@[go_sem] def lv129:List (Nat×List Nat):=[(10,[2]),(3,[2]),(5,[2]),(7,[2]),(9,[2]),(8,[1,40]),(6,[1,4,25]),(4,[1,4,15]),(2,[1,4,5]),(1,[1,4]),(0,[1])]
def ann129:Ann:=⟨[1],[],lv129,[]⟩
@[go_sem] theorem ann129_s:ann129.imm=[1]∧ann129.frz=[]∧ann129.live=lv129∧ann129.head=[]:=⟨rfl,rfl,rfl,rfl⟩
@[go_sem] def lv130:List (Nat×List Nat):=[(7,[2]),(3,[2]),(6,[2]),(5,[1,11]),(4,[1,11,4]),(2,[1,4,5]),(1,[1,4]),(0,[1])]
def ann130:Ann:=⟨[1],[],lv130,[]⟩
@[go_sem] theorem ann130_s:ann130.imm=[1]∧ann130.frz=[]∧ann130.live=lv130∧ann130.head=[]:=⟨rfl,rfl,rfl,rfl⟩
@[go_sem] def lv131:List (Nat×List Nat):=[(6,[2]),(3,[3,0]),(5,[2]),(4,[0,3,15]),(2,[0,3,7]),(1,[3,0]),(0,[0])]
def ann131:Ann:=⟨[],[],lv131,[(2,[3,0])]⟩
@[go_sem] theorem ann131_s:ann131.imm=[]∧ann131.frz=[]∧ann131.live=lv131∧ann131.head=[(2,[3,0])]:=⟨rfl,rfl,rfl,rfl⟩
@[go_sem] def lv132:List (Nat×List Nat):=[(21,[2]),(6,[2]),(16,[2]),(20,[2]),(19,[19]),(18,[19,3]),(17,[19,3]),(15,[3,9]),(14,[3,9]),(13,[3,9]),(12,[3,9]),(11,[3,9]),(10,[3,9]),(9,[3,9]),(8,[3,9]),(7,[3,9]),(5,[3,4]),(4,[3,4]),(3,[3,4]),(2,[3,4]),(1,[3]),(0,[0])]
def ann132:Ann:=⟨[],[],lv132,[]⟩
@[go_sem] theorem ann132_s:ann132.imm=[]∧ann132.frz=[]∧ann132.live=lv132∧ann132.head=[]:=⟨rfl,rfl,rfl,rfl⟩
def ann133:Ann:=⟨[1],[],[(1,[2]),(0,[1])],[]⟩
@[go_sem] theorem ann133_s:ann133.imm=[1]∧ann133.frz=[]∧ann133.live=[(1,[2]),(0,[1])]∧ann133.head=[]:=⟨rfl,rfl,rfl,rfl⟩
def ann134:Ann:=⟨[1],[],[(1,[2]),(0,[1])],[]⟩
@[go_sem] theorem ann134_s:ann134.imm=[1]∧ann134.frz=[]∧ann134.live=[(1,[2]),(0,[1])]∧ann134.head=[]:=⟨rfl,rfl,rfl,rfl⟩
def ann135:Ann:=⟨[1],[],[(4,[2]),(3,[1,3]),(2,[2]),(1,[1,34]),(0,[1])],[]⟩
@[go_sem] theorem ann135_s:ann135.imm=[1]∧ann135.frz=[]∧ann135.live=[(4,[2]),(3,[1,3]),(2,[2]),(1,[1,34]),(0,[1])]∧ann135.head=[]:=⟨rfl,rfl,rfl,rfl⟩
def ann137:Ann:=⟨[],[],[(1,[]),(0,[2,0])],[]⟩
@[go_sem] theorem ann137_s:ann137.imm=[]∧ann137.frz=[]∧ann137.live=[(1,[]),(0,[2,0])]∧ann137.head=[]:=⟨rfl,rfl,rfl,rfl⟩
@[go_sem] def lv138:List (Nat×List Nat):=[(16,[2]),(5,[3,0]),(15,[2]),(14,[3,0]),(10,[5,3,4,0]),(13,[3,4,0,5]),(12,[4,0,5,3]),(11,[4,0,5,3,44]),(9,[4,0,5,3,32]),(8,[5,3,4,0]),(7,[3,4,0]),(6,[3,0,25]),(4,[3,0,13]),(3,[3,0]),(2,[2]),(1,[0,8]),(0,[0])]
def ann138:Ann:=⟨[],[],lv138,[(9,[5,3,4,0]),(4,[3,0])]⟩
@[go_sem] theorem ann138_s:ann138.imm=[]∧ann138.frz=[]∧ann138.live=lv138∧ann138.head=[(9,[5,3,4,0]),(4,[3,0])]:=⟨rfl,rfl,rfl,rfl⟩
def ann139:Ann:=⟨[1],[],[(1,[2]),(0,[1])],[]⟩
@[go_sem] theorem ann139_s:ann139.imm=[1]∧ann139.frz=[]∧ann139.live=[(1,[2]),(0,[1])]∧ann139.head=[]:=⟨rfl,rfl,rfl,rfl⟩
@[go_sem] def lv140:List (Nat×List Nat):=[(17,[6]),(16,[72,8,2,0,70,6,71]),(15,[8,2,0,70,6,71,72]),(14,[8,2,0,70,6,71,72,10]),(13,[8,2,0,70,6,71,72,73]),(12,[72,8,2,0,70,6,71]),(11,[8,2,0,6,4]),(10,[8,0,6,4,2,66]),(9,[8,0,6,4,2]),(8,[0,6,4,2]),(7,[6]),(6,[6,7]),(5,[6,7,0]),(4,[6,0,2,4,27]),(3,[6]),(2,[6]),(1,[6,0,2,4,15]),(0,[6,0,2,4])]
def ann140:Ann:=⟨[4],[],lv140,[(13,[72,8,2,0,70,6,71])]⟩
@[go_sem] theorem ann140_s:ann140.imm=[4]∧ann140.frz=[]∧ann140.live=lv140∧ann140.head=[(13,[72,8,2,0,70,6,71])]:=⟨rfl,rfl,rfl,rfl⟩
@[go_sem] def lv141:List (Nat×List Nat):=[(3,[6]),(2,[6]),(1,[6,3,4,17]),(0,[6,3,4,2,1])]
def ann141:Ann:=⟨[4],[],lv141,[]⟩
@[go_sem] theorem ann141_s:ann141.imm=[4]∧ann141.frz=[]∧ann141.live=lv141∧ann141.head=[]:=⟨rfl,rfl,rfl,rfl⟩
def ann142:Ann:=⟨[],[],[(1,[2]),(0,[2,0])],[]⟩
@[go_sem] theorem ann142_s:ann142.imm=[]∧ann142.frz=[]∧ann142.live=[(1,[2]),(0,[2,0])]∧ann142.head=[]:=⟨rfl,rfl,rfl,rfl⟩
def ann143:Ann:=⟨[1],[],[(1,[2]),(0,[2,1])],[]⟩
@[go_sem] theorem ann143_s:ann143.imm=[1]∧ann143.frz=[]∧ann143.live=[(1,[2]),(0,[2,1])]∧ann143.head=[]:=⟨rfl,rfl,rfl,rfl⟩
@[go_sem] def lv144:List (Nat×List Nat):=[(8,[6]),(6,[8,2,7,1,3]),(7,[2,7,1,3,8]),(5,[2,1,3,8,7,21]),(4,[8,2,7,1,3]),(3,[2,7,1,3]),(2,[6]),(1,[1,2,3,10]),(0,[1,2,3])]
def ann144:Ann:=⟨[3],[],lv144,[(5,[8,2,7,1,3])]⟩
@[go_sem] theorem ann144_s:ann144.imm=[3]∧ann144.frz=[]∧ann144.live=lv144∧ann144.head=[(5,[8,2,7,1,3])]:=⟨rfl,rfl,rfl,rfl⟩
@[go_sem] def lv145:List (Nat×List Nat):=[(15,[2]),(14,[2]),(13,[1,94]),(12,[2]),(11,[1,86]),(8,[2]),(7,[1,64]),(10,[2]),(9,[1,67]),(6,[1,56]),(5,[2]),(4,[1,48]),(3,[1,3]),(2,[2]),(1,[1,11]),(0,[1])]
def ann145:Ann:=⟨[1],[],lv145,[]⟩
@[go_sem] theorem ann145_s:ann145.imm=[1]∧ann145.frz=[]∧ann145.live=lv145∧ann145.head=[]:=⟨rfl,rfl,rfl,rfl⟩
@[go_sem] def lv146:List (Nat×List Nat):=[(9,[2]),(2,[2]),(4,[2]),(6,[2]),(8,[2]),(7,[21]),(5,[1,18]),(3,[1,12]),(1,[1,3]),(0,[1])]
def ann146:Ann:=⟨[1],[],lv146,[]⟩
@[go_sem] theorem ann146_s:ann146.imm=[1]∧ann146.frz=[]∧ann146.live=lv146∧ann146.head=[]:=⟨rfl,rfl,rfl,rfl⟩
def ann147:Ann:=⟨[],[],[(3,[2]),(2,[7,3,0,5]),(1,[3,0,5,4]),(0,[0])],[]⟩
@[go_sem] theorem ann147_s:ann147.imm=[]∧ann147.frz=[]∧ann147.live=[(3,[2]),(2,[7,3,0,5]),(1,[3,0,5,4]),(0,[0])]∧ann147.head=[]:=⟨rfl,rfl,rfl,rfl⟩
def ann148:Ann:=⟨[1],[],[(2,[2]),(1,[4]),(0,[1])],[]⟩
@[go_sem] theorem ann148_s:ann148.imm=[1]∧ann148.frz=[]∧ann148.live=[(2,[2]),(1,[4]),(0,[1])]∧ann148.head=[]:=⟨rfl,rfl,rfl,rfl⟩
def ann149:Ann:=⟨[1],[],[(1,[2]),(0,[1])],[]⟩
@[go_sem] theorem ann149_s:ann149.imm=[1]∧ann149.frz=[]∧ann149.live=[(1,[2]),(0,[1])]∧ann149.head=[]:=⟨rfl,rfl,rfl,rfl⟩
@[go_sem] def lv150:List (Nat×List Nat):=[(6,[2]),(3,[3,0]),(5,[2]),(4,[0,3,19]),(2,[0,3,7]),(1,[3,0]),(0,[0])]
def ann150:Ann:=⟨[],[],lv150,[(2,[3,0])]⟩
@[go_sem] theorem ann150_s:ann150.imm=[]∧ann150.frz=[]∧ann150.live=lv150∧ann150.head=[(2,[3,0])]:=⟨rfl,rfl,rfl,rfl⟩
def ann151:Ann:=⟨[],[],[(1,[2]),(0,[0])],[]⟩
@[go_sem] theorem ann151_s:ann151.imm=[]∧ann151.frz=[]∧ann151.live=[(1,[2]),(0,[0])]∧ann151.head=[]:=⟨rfl,rfl,rfl,rfl⟩
@[go_sem] def lv152:List (Nat×List Nat):=[(9,[2]),(8,[15,13,14]),(7,[2]),(6,[13,14,15,21]),(5,[13,14,15,4]),(4,[13,14,15,16]),(3,[15,13,14]),(2,[2]),(1,[0,11]),(0,[0])]
def ann152:Ann:=⟨[],[],lv152,[(4,[15,13,14])]⟩
@[go_sem] theorem ann152_s:ann152.imm=[]∧ann152.frz=[]∧ann152.live=lv152∧ann152.head=[(4,[15,13,14])]:=⟨rfl,rfl,rfl,rfl⟩
def ann153:Ann:=⟨[1],[],[(1,[2]),(0,[1])],[]⟩
@[go_sem] theorem ann153_s:ann153.imm=[1]∧ann153.frz=[]∧ann153.live=[(1,[2]),(0,[1])]∧ann153.head=[]:=⟨rfl,rfl,rfl,rfl⟩
@[go_sem] def lv154:List (Nat×List Nat):=[(7,[6]),(5,[7,4,2,0]),(6,[4,2,0,7]),(4,[4,2,7,0,24]),(3,[7,4,2,0]),(2,[4,2,0]),(1,[4,2,0]),(0,[4,2,0])]
def ann154:Ann:=⟨[4],[],lv154,[(4,[7,4,2,0])]⟩
@[go_sem] theorem ann154_s:ann154.imm=[4]∧ann154.frz=[]∧ann154.live=lv154∧ann154.head=[(4,[7,4,2,0])]:=⟨rfl,rfl,rfl,rfl⟩
@[go_sem] def lv155:List (Nat×List Nat):=[(7,[6]),(5,[7,4,2,0]),(6,[4,2,0,7]),(4,[4,2,7,0,27]),(3,[7,4,2,0]),(2,[6]),(1,[2,4,0,16]),(0,[2,4,0])]
def ann155:Ann:=⟨[4],[],lv155,[(4,[7,4,2,0])]⟩
@[go_sem] theorem ann155_s:ann155.imm=[4]∧ann155.frz=[]∧ann155.live=lv155∧ann155.head=[(4,[7,4,2,0])]:=⟨rfl,rfl,rfl,rfl⟩
@[go_sem] def lv156:List (Nat×List Nat):=[(18,[2,3,4]),(17,[2,3,4]),(16,[2,11,10]),(15,[2,9,8,1,45]),(14,[2,9,8,1,5]),(13,[2,22,5,20,1,21]),(12,[2,3,4]),(11,[2,5,20,1,21,22,29]),(10,[2,5,20,1,21,22,7]),(9,[2,5,20,1,21,22,23]),(8,[2,22,5,20,1,21]),(7,[2,5,1]),(6,[2,1,5,14]),(5,[2,1,5,14,13]),(4,[2,1,5,14,13]),(3,[2,1,5,14,13]),(2,[2,1,5,13]),(1,[2,1,5]),(0,[2,1])]
def ann156:Ann:=⟨[1],[],lv156,[(9,[2,22,5,20,1,21])]⟩
@[go_sem] theorem ann156_s:ann156.imm=[1]∧ann156.frz=[]∧ann156.live=lv156∧ann156.head=[(9,[2,22,5,20,1,21])]:=⟨rfl,rfl,rfl,rfl⟩
@[go_sem] def lv157:List (Nat×List Nat):=[(6,[4,5]),(2,[4,5]),(5,[4,5]),(4,[4,7,3,6]),(3,[4,3,2,20]),(1,[4,3,2,8]),(0,[4,3,2])]
def ann157:Ann:=⟨[2,3],[],lv157,[]⟩
@[go_sem] theorem ann157_s:ann157.imm=[2,3]∧ann157.frz=[]∧ann157.live=lv157∧ann157.head=[]:=⟨rfl,rfl,rfl,rfl⟩
@[go_sem] def lv158:List (Nat×List Nat):=[(6,[4,5]),(2,[4,5]),(5,[4,5]),(4,[4,7,6,3]),(3,[4,3,2,21]),(1,[4,3,2,8]),(0,[4,3,2])]
def ann158:Ann:=⟨[2,3],[],lv158,[]⟩
@[go_sem] theorem ann158_s:ann158.imm=[2,3]∧ann158.frz=[]∧ann158.live=lv158∧ann158.head=[]:=⟨rfl,rfl,rfl,rfl⟩
def ann159:Ann:=⟨[],[],[(1,[4]),(0,[1,0])],[]⟩
@[go_sem] theorem ann159_s:ann159.imm=[]∧ann159.frz=[]∧ann159.live=[(1,[4]),(0,[1,0])]∧ann159.head=[]:=⟨rfl,rfl,rfl,rfl⟩
@[go_sem] def lv160:List (Nat×List Nat):=[(7,[4]),(6,[8,0,1,7]),(5,[4]),(4,[5,0,1,7,8,16]),(3,[5,0,1,7,8]),(2,[0,1,7,8,9]),(1,[8,0,1,7]),(0,[0,1])]
def ann160:Ann:=⟨[],[],lv160,[(2,[8,0,1,7])]⟩
@[go_sem] theorem ann160_s:ann160.imm=[]∧ann160.frz=[]∧ann160.live=lv160∧ann160.head=[(2,[8,0,1,7])]:=⟨rfl,rfl,rfl,rfl⟩
def ann161:Ann:=⟨[],[],[(3,[2]),(2,[2]),(1,[2,0,8]),(0,[2,0])],[]⟩
@[go_sem] theorem ann161_s:ann161.imm=[]∧ann161.frz=[]∧ann161.live=[(3,[2]),(2,[2]),(1,[2,0,8]),(0,[2,0])]∧ann161.head=[]:=⟨rfl,rfl,rfl,rfl⟩
def ann162:Ann:=⟨[],[],[(3,[2]),(2,[2]),(1,[0,4]),(0,[0])],[]⟩
@[go_sem] theorem ann162_s:ann162.imm=[]∧ann162.frz=[]∧ann162.live=[(3,[2]),(2,[2]),(1,[0,4]),(0,[0])]∧ann162.head=[]:=⟨rfl,rfl,rfl,rfl⟩
@[go_sem] def lv163:List (Nat×List Nat):=[(6,[2]),(5,[2,5,4]),(4,[2,4,3]),(3,[2,3]),(2,[2,3,6]),(1,[2,3,0]),(0,[2,0])]
def ann163:Ann:=⟨[],[],lv163,[]⟩
@[go_sem] theorem ann163_s:ann163.imm=[]∧ann163.frz=[]∧ann163.live=lv163∧ann163.head=[]:=⟨rfl,rfl,rfl,rfl⟩
def ann164:Ann:=⟨[],[],[(3,[2]),(2,[2]),(1,[0,4]),(0,[0])],[]⟩
@[go_sem] theorem ann164_s:ann164.imm=[]∧ann164.frz=[]∧ann164.live=[(3,[2]),(2,[2]),(1,[0,4]),(0,[0])]∧ann164.head=[]:=⟨rfl,rfl,rfl,rfl⟩
@[go_sem] def lv165:List (Nat×List Nat):=[(13,[8]),(11,[10,9,4,3,2,5,8]),(12,[9,4,3,2,5,8,10]),(10,[9,4,3,2,5,8,10,37]),(9,[10,9,4,3,2,5,8]),(8,[9,4,3,2,5,8]),(7,[9,4,3,2,5,8]),(6,[8]),(5,[8]),(4,[8,4,25]),(3,[8]),(2,[8,3,2,5,4,17]),(1,[8,3,2,5,4,13]),(0,[8,3,2,5,4])]
def ann165:Ann:=⟨[4,5],[],lv165,[(10,[10,9,4,3,2,5,8])]⟩
@[go_sem] theorem ann165_s:ann165.imm=[4,5]∧ann165.frz=[]∧ann165.live=lv165∧ann165.head=[(10,[10,9,4,3,2,5,8])]:=⟨rfl,rfl,rfl,rfl⟩
@[go_sem] def lv166:List (Nat×List Nat):=[(9,[6]),(7,[8,7,3,2,1,6]),(8,[7,3,2,1,6,8]),(6,[7,3,2,1,6,8,27]),(5,[8,7,3,2,1,6]),(4,[7,3,2,1,6]),(3,[7,3,2,1,6]),(2,[7,3,2,1,6]),(1,[7,3,2,1,6]),(0,[3,2,1,6])]
def ann166:Ann:=⟨[3],[],lv166,[(6,[8,7,3,2,1,6])]⟩
@[go_sem] theorem ann166_s:ann166.imm=[3]∧ann166.frz=[]∧ann166.live=lv166∧ann166.head=[(6,[8,7,3,2,1,6])]:=⟨rfl,rfl,rfl,rfl⟩
@[go_sem] def lv167:List (Nat×List Nat):=[(18,[2]),(6,[2]),(17,[2]),(16,[9]),(15,[9,3]),(14,[9,3]),(13,[9,3]),(12,[9,3]),(11,[9,3]),(10,[9,3]),(9,[9,3]),(8,[9,3]),(7,[9,3]),(5,[3,4]),(4,[3,4]),(3,[3,4]),(2,[3,4]),(1,[3]),(0,[0])]
def ann167:Ann:=⟨[],[],lv167,[]⟩
@[go_sem] theorem ann167_s:ann167.imm=[]∧ann167.frz=[]∧ann167.live=lv167∧ann167.head=[]:=⟨rfl,rfl,rfl,rfl⟩
@[go_sem] def lv168:List (Nat×List Nat):=[(6,[2]),(3,[3,0]),(5,[2]),(4,[0,3,20]),(2,[0,3,7]),(1,[3,0]),(0,[0])]
def ann168:Ann:=⟨[],[],lv168,[(2,[3,0])]⟩
@[go_sem] theorem ann168_s:ann168.imm=[]∧ann168.frz=[]∧ann168.live=lv168∧ann168.head=[(2,[3,0])]:=⟨rfl,rfl,rfl,rfl⟩
@[go_sem] def lv169:List (Nat×List Nat):=[(6,[2]),(3,[3,0]),(5,[2]),(4,[0,3,19]),(2,[0,3,7]),(1,[3,0]),(0,[0])]
def ann169:Ann:=⟨[],[],lv169,[(2,[3,0])]⟩
@[go_sem] theorem ann169_s:ann169.imm=[]∧ann169.frz=[]∧ann169.live=lv169∧ann169.head=[(2,[3,0])]:=⟨rfl,rfl,rfl,rfl⟩
@[go_sem] def lv170:List (Nat×List Nat):=[(8,[6]),(6,[7,2,1,3]),(7,[2,1,3,7]),(5,[2,3,7,1,36]),(4,[7,2,1,3]),(3,[2,1,3]),(2,[6]),(1,[2,3,1,25]),(0,[2,3,1])]
def ann170:Ann:=⟨[3],[],lv170,[(5,[7,2,1,3])]⟩
@[go_sem] theorem ann170_s:ann170.imm=[3]∧ann170.frz=[]∧ann170.live=lv170∧ann170.head=[(5,[7,2,1,3])]:=⟨rfl,rfl,rfl,rfl⟩
@[go_sem] def lv171:List (Nat×List Nat):=[(10,[2]),(3,[2]),(5,[2]),(7,[2]),(9,[2]),(8,[1,35]),(6,[1,4,25]),(4,[1,4,15]),(2,[1,4,5]),(1,[1,4]),(0,[1])]
def ann171:Ann:=⟨[1],[],lv171,[]⟩
@[go_sem] theorem ann171_s:ann171.imm=[1]∧ann171.frz=[]∧ann171.live=lv171∧ann171.head=[]:=⟨rfl,rfl,rfl,rfl⟩
@[go_sem] def lv172:List (Nat×List Nat):=[(27,[2]),(6,[2]),(16,[2]),(20,[2]),(22,[2]),(24,[2]),(26,[2]),(25,[1,35]),(23,[1,4,29]),(21,[1,4,24]),(19,[1,4,20]),(18,[1,4,20]),(17,[1,4,20]),(15,[1,4,10]),(14,[1,4,10]),(13,[1,4,10]),(12,[1,4,10]),(11,[1,4,10]),(10,[1,4,10]),(9,[1,4,10]),(8,[1,4,10]),(7,[1,4,10]),(5,[1,4,5]),(4,[1,4,5]),(3,[1,4,5]),(2,[1,4,5]),(1,[1,4]),(0,[1])]
def ann172:Ann:=⟨[1],[],lv172,[]⟩
@[go_sem] theorem ann172_s:ann172.imm=[1]∧ann172.frz=[]∧ann172.live=lv172∧ann172.head=[]:=⟨rfl,rfl,rfl,rfl⟩
@[go_sem] def lv173:List (Nat×List Nat):=[(7,[2]),(3,[2]),(6,[2]),(5,[1,11]),(4,[1,11,4]),(2,[1,4,5]),(1,[1,4]),(0,[1])]
def ann173:Ann:=⟨[1],[],lv173,[]⟩
@[go_sem] theorem ann173_s:ann173.imm=[1]∧ann173.frz=[]∧ann173.live=lv173∧ann173.head=[]:=⟨rfl,rfl,rfl,rfl⟩
@[go_sem] def lv174:List (Nat×List Nat):=[(5,[2]),(2,[2]),(4,[2]),(3,[1,16]),(1,[1,3]),(0,[1])]
def ann174:Ann:=⟨[1],[],lv174,[]⟩
@[go_sem] theorem ann174_s:ann174.imm=[1]∧ann174.frz=[]∧ann174.live=lv174∧ann174.head=[]:=⟨rfl,rfl,rfl,rfl⟩
def ann175:Ann:=⟨[2],[],[(3,[4]),(2,[4]),(1,[2,5]),(0,[2,1])],[]⟩
@[go_sem] theorem ann175_s:ann175.imm=[2]∧ann175.frz=[]∧ann175.live=[(3,[4]),(2,[4]),(1,[2,5]),(0,[2,1])]∧ann175.head=[]:=⟨rfl,rfl,rfl,rfl⟩
@[go_sem] def lv176:List (Nat×List Nat):=[(27,[2,1,0,9,8,3]),(26,[2,0,9,8,3,14]),(25,[2,0,9,8,3,14,1]),(30,[2,1,0,9,8,3]),(29,[1,0,9,8,3,14]),(28,[1,0,9,8,3,14,2]),(24,[2,0,9,3,14,1,18,16,17,113]),(23,[2,0,9,3,14,1,18,16,17]),(22,[2,0,9,3,14,1,16,17,10]),(21,[2,0,9,3,14,1,10]),(20,[2,0,3,14,1,10,15]),(19,[2,1,0,9,8,3]),(18,[2,0,9,8,3,13]),(17,[2,0,9,8,3,11,1,10,87]),(16,[2,0,9,8,3,11,1,10,72]),(15,[2,0,9,8,3,11,1,10,68]),(14,[2,0,9,8,3,11,1,10,12]),(13,[2,0,9,8,3,11,1,10]),(12,[2,0,9,8,3,1,10,11]),(11,[2,0,9,8,3,1,10,11,12,50]),(10,[2,0,9,8,3,1,10,11,12]),(9,[2,0,9,8,3,1,10]),(8,[2,0,9,8,1,10,3]),(7,[2,0,9,8,1,10,3,35]),(6,[]),(5,[2,1,0,9,8,10,3,29]),(4,[]),(3,[2,1,0,9,8,10,3,23]),(2,[2,1,0,9,8,10,3]),(1,[2,1,0,9,8,3]),(0,[2,1,0,8,3])]
def ann176:Ann:=⟨[],[],lv176,[(1,[2,1,0,9,8,3])]⟩
@[go_sem] theorem ann176_s:ann176.imm=[]∧ann176.frz=[]∧ann176.live=lv176∧ann176.head=[(1,[2,1,0,9,8,3])]:=⟨rfl,rfl,rfl,rfl⟩
def ann177:Ann:=⟨[],[],[(2,[2]),(1,[2]),(0,[0])],[]⟩
@[go_sem] theorem ann177_s:ann177.imm=[]∧ann177.frz=[]∧ann177.live=[(2,[2]),(1,[2]),(0,[0])]∧ann177.head=[]:=⟨rfl,rfl,rfl,rfl⟩
@[go_sem] def lv178:List (Nat×List Nat):=[(7,[2]),(6,[9,3,7,2,8]),(5,[3,7,2,8,9]),(4,[3,7,2,8,9,5]),(3,[3,7,2,8,9,10]),(2,[9,3,7,2,8]),(1,[3,2,1]),(0,[2,1])]
def ann178:Ann:=⟨[1],[],lv178,[(3,[9,3,7,2,8])]⟩
@[go_sem] theorem ann178_s:ann178.imm=[1]∧ann178.frz=[]∧ann178.live=lv178∧ann178.head=[(3,[9,3,7,2,8])]:=⟨rfl,rfl,rfl,rfl⟩
@[go_sem] def lv179:List (Nat×List Nat):=[(7,[2]),(6,[2]),(5,[16]),(4,[2]),(3,[0,14]),(2,[2]),(1,[0,8]),(0,[0])]
def ann179:Ann:=⟨[],[],lv179,[]⟩
@[go_sem] theorem ann179_s:ann179.imm=[]∧ann179.frz=[]∧ann179.live=lv179∧ann179.head=[]:=⟨rfl,rfl,rfl,rfl⟩
@[go_sem] def lv180:List (Nat×List Nat):=[(6,[2]),(3,[3,0]),(5,[2]),(4,[0,3,15]),(2,[0,3,7]),(1,[3,0]),(0,[0])]
def ann180:Ann:=⟨[],[],lv180,[(2,[3,0])]⟩
@[go_sem] theorem ann180_s:ann180.imm=[]∧ann180.frz=[]∧ann180.live=lv180∧ann180.head=[(2,[3,0])]:=⟨rfl,rfl,rfl,rfl⟩
@[go_sem] def lv181:List (Nat×List Nat):=[(9,[2]),(5,[3,0]),(8,[2]),(7,[5,3,0]),(6,[3,0,18]),(4,[3,0,12]),(3,[3,0]),(2,[2]),(1,[0,8]),(0,[0])]
def ann181:Ann:=⟨[],[],lv181,[(4,[3,0])]⟩
@[go_sem] theorem ann181_s:ann181.imm=[]∧ann181.frz=[]∧ann181.live=lv181∧ann181.head=[(4,[3,0])]:=⟨rfl,rfl,rfl,rfl⟩
def ann182:Ann:=⟨[],[],[(1,[2]),(0,[0])],[]⟩
@[go_sem] theorem ann182_s:ann182.imm=[]∧ann182.frz=[]∧ann182.live=[(1,[2]),(0,[0])]∧ann182.head=[]:=⟨rfl,rfl,rfl,rfl⟩
def ann183:Ann:=⟨[],[],[(1,[4,5,6]),(0,[1,0])],[]⟩
@[go_sem] theorem ann183_s:ann183.imm=[]∧ann183.frz=[]∧ann183.live=[(1,[4,5,6]),(0,[1,0])]∧ann183.head=[]:=⟨rfl,rfl,rfl,rfl⟩
@[go_sem] def lv184:List (Nat×List Nat):=[(12,[2,3]),(11,[2,3]),(10,[6,41]),(9,[6,7]),(8,[23,21,0,22]),(7,[2,3]),(6,[21,0,22,23,29]),(5,[21,0,22,23,5]),(4,[21,0,22,23,24]),(3,[23,21,0,22]),(2,[2,3]),(1,[0,19]),(0,[0])]
def ann184:Ann:=⟨[],[],lv184,[(4,[23,21,0,22])]⟩
@[go_sem] theorem ann184_s:ann184.imm=[]∧ann184.frz=[]∧ann184.live=lv184∧ann184.head=[(4,[23,21,0,22])]:=⟨rfl,rfl,rfl,rfl⟩
def ann185:Ann:=⟨[],[],[(1,[2]),(0,[0])],[]⟩
@[go_sem] theorem ann185_s:ann185.imm=[]∧ann185.frz=[]∧ann185.live=[(1,[2]),(0,[0])]∧ann185.head=[]:=⟨rfl,rfl,rfl,rfl⟩
@[go_sem] def lv186:List (Nat×List Nat):=[(12,[6,7]),(11,[34,8,2,1,32,33]),(10,[8,2,1,32,33,34]),(9,[6,7]),(8,[2,1,32,33,34,11,8,49]),(7,[2,1,32,33,34,11,8,12]),(6,[2,1,32,33,34,8,10]),(5,[2,1,32,33,34,8,35]),(4,[34,8,2,1,32,33]),(3,[8,2,1,3]),(2,[6,7]),(1,[2,1,3,30]),(0,[2,1,3])]
def ann186:Ann:=⟨[3],[],lv186,[(5,[34,8,2,1,32,33])]⟩
@[go_sem] theorem ann186_s:ann186.imm=[3]∧ann186.frz=[]∧ann186.live=lv186∧ann186.head=[(5,[34,8,2,1,32,33])]:=⟨rfl,rfl,rfl,rfl⟩
@[go_sem] def lv187:List (Nat×List Nat):=[(11,[2]),(2,[2]),(4,[2]),(6,[2]),(8,[2]),(10,[2]),(9,[27]),(7,[0,24]),(5,[0,17]),(3,[0,10]),(1,[0,3]),(0,[0])]
def ann187:Ann:=⟨[],[],lv187,[]⟩
@[go_sem] theorem ann187_s:ann187.imm=[]∧ann187.frz=[]∧ann187.live=lv187∧ann187.head=[]:=⟨rfl,rfl,rfl,rfl⟩
@[go_sem] def lv188:List (Nat×List Nat):=[(6,[6]),(3,[7,2,1,0]),(5,[2,1,0,7]),(4,[2,1,7,0,19]),(2,[2,1,7,0,11]),(1,[7,2,1,0]),(0,[2,1,0])]
def ann188:Ann:=⟨[],[],lv188,[(2,[7,2,1,0])]⟩
@[go_sem] theorem ann188_s:ann188.imm=[]∧ann188.frz=[]∧ann188.live=lv188∧ann188.head=[(2,[7,2,1,0])]:=⟨rfl,rfl,rfl,rfl⟩
def ann189:Ann:=⟨[1],[],[(1,[2]),(0,[1])],[]⟩
@[go_sem] theorem ann189_s:ann189.imm=[1]∧ann189.frz=[]∧ann189.live=[(1,[2]),(0,[1])]∧ann189.head=[]:=⟨rfl,rfl,rfl,rfl⟩
def ann190:Ann:=⟨[2],[],[(3,[4]),(2,[4]),(1,[16]),(0,[1,2])],[]⟩
@[go_sem] theorem ann190_s:ann190.imm=[2]∧ann190.frz=[]∧ann190.live=[(3,[4]),(2,[4]),(1,[16]),(0,[1,2])]∧ann190.head=[]:=⟨rfl,rfl,rfl,rfl⟩
@[go_sem] def lv191:List (Nat×List Nat):=[(8,[4]),(7,[5,0,6]),(6,[5,0,1,6]),(5,[4]),(4,[0,5,1,32]),(3,[5,0,1]),(2,[0,1,5,18]),(1,[5,0,1]),(0,[0,1])]
def ann191:Ann:=⟨[],[],lv191,[(2,[5,0,1])]⟩
@[go_sem] theorem ann191_s:ann191.imm=[]∧ann191.frz=[]∧ann191.live=lv191∧ann191.head=[(2,[5,0,1])]:=⟨rfl,rfl,rfl,rfl⟩
@[go_sem] def lv192:List (Nat×List Nat):=[(10,[4]),(4,[4]),(9,[4]),(8,[15]),(7,[1,10]),(6,[1,10,6]),(5,[1,10,6]),(3,[1,6,7]),(2,[1,6,7]),(1,[1,6]),(0,[1,2])]
def ann192:Ann:=⟨[2],[],lv192,[]⟩
@[go_sem] theorem ann192_s:ann192.imm=[2]∧ann192.frz=[]∧ann192.live=lv192∧ann192.head=[]:=⟨rfl,rfl,rfl,rfl⟩
@[go_sem] def lv193:List (Nat×List Nat):=[(10,[6,7]),(5,[6,7]),(4,[6,7]),(3,[6,2,1,16]),(7,[6,7]),(9,[6,7]),(8,[6,2,1,28]),(6,[6,1,2,8,23]),(2,[6,2,1,8,9]),(1,[6,2,1,8]),(0,[6,2,1,0])]
def ann193:Ann:=⟨[],[],lv193,[]⟩
@[go_sem] theorem ann193_s:ann193.imm=[]∧ann193.frz=[]∧ann193.live=lv193∧ann193.head=[]:=⟨rfl,rfl,rfl,rfl⟩
@[go_sem] def lv194:List (Nat×List Nat):=[(22,[6]),(21,[6]),(20,[6,2,1,69]),(19,[6]),(18,[6,2,1,0,65]),(3,[6]),(5,[6]),(7,[6]),(9,[6]),(11,[6]),(13,[6]),(15,[6]),(17,[6]),(16,[6,1,2,0,59]),(14,[6,2,1,0,7,53]),(12,[6,2,1,0,7,47]),(10,[6,2,1,0,7,41]),(8,[6,1,2,0,7,36]),(6,[6,1,2,0,7,20]),(4,[6,2,1,0,7,14]),(2,[6,2,1,0,7,8]),(1,[6,2,1,0,7]),(0,[6,2,1,0])]
def ann194:Ann:=⟨[],[],lv194,[]⟩
@[go_sem] theorem ann194_s:ann194.imm=[]∧ann194.frz=[]∧ann194.live=lv194∧ann194.head=[]:=⟨rfl,rfl,rfl,rfl⟩
def ann195:Ann:=⟨[],[],[(1,[0]),(0,[0])],[]⟩
@[go_sem] theorem ann195_s:ann195.imm=[]∧ann195.frz=[]∧ann195.live=[(1,[0]),(0,[0])]∧ann195.head=[]:=⟨rfl,rfl,rfl,rfl⟩
@[go_sem] def lv196:List (Nat×List Nat):=[(5,[2]),(4,[2]),(3,[0,10]),(2,[2]),(1,[0,4]),(0,[0])]
def ann196:Ann:=⟨[],[],lv196,[]⟩
@[go_sem] theorem ann196_s:ann196.imm=[]∧ann196.frz=[]∧ann196.live=lv196∧ann196.head=[]:=⟨rfl,rfl,rfl,rfl⟩
def ann197:Ann:=⟨[3],[],[(1,[6]),(0,[6,2,1,3])],[]⟩
@[go_sem] theorem ann197_s:ann197.imm=[3]∧ann197.frz=[]∧ann197.live=[(1,[6]),(0,[6,2,1,3])]∧ann197.head=[]:=⟨rfl,rfl,rfl,rfl⟩
@[go_sem] def lv198:List (Nat×List Nat):=[(12,[6]),(10,[8,3,6,2]),(11,[3,6,2,8]),(9,[3,6,2,8,25]),(8,[8,3,6,2]),(7,[3,6,2]),(5,[7,3,6,2,1]),(6,[3,6,2,1,7]),(4,[3,6,2,1,7,14]),(3,[7,3,6,2,1]),(2,[6]),(1,[6,3,2,1,10]),(0,[6,3,2,1])]
def ann198:Ann:=⟨[],[],lv198,[(9,[8,3,6,2]),(4,[7,3,6,2,1])]⟩
@[go_sem] theorem ann198_s:ann198.imm=[]∧ann198.frz=[]∧ann198.live=lv198∧ann198.head=[(9,[8,3,6,2]),(4,[7,3,6,2,1])]:=⟨rfl,rfl,rfl,rfl⟩
def ann199:Ann:=⟨[],[],[(1,[2]),(0,[0])],[]⟩
@[go_sem] theorem ann199_s:ann199.imm=[]∧ann199.frz=[]∧ann199.live=[(1,[2]),(0,[0])]∧ann199.head=[]:=⟨rfl,rfl,rfl,rfl⟩
@[go_sem] def lv200:List (Nat×List Nat):=[(7,[2]),(6,[2]),(5,[4]),(4,[4,3]),(3,[4,3]),(2,[4,3]),(1,[3]),(0,[0])]
def ann200:Ann:=⟨[],[],lv200,[]⟩
@[go_sem] theorem ann200_s:ann200.imm=[]∧ann200.frz=[]∧ann200.live=lv200∧ann200.head=[]:=⟨rfl,rfl,rfl,rfl⟩
def ann201:Ann:=⟨[],[],[(1,[2]),(0,[0])],[]⟩
@[go_sem] theorem ann201_s:ann201.imm=[]∧ann201.frz=[]∧ann201.live=[(1,[2]),(0,[0])]∧ann201.head=[]:=⟨rfl,rfl,rfl,rfl⟩
def ann202:Ann:=⟨[1],[],[(1,[2]),(0,[1])],[]⟩
@[go_sem] theorem ann202_s:ann202.imm=[1]∧ann202.frz=[]∧ann202.live=[(1,[2]),(0,[1])]∧ann202.head=[]:=⟨rfl,rfl,rfl,rfl⟩
@[go_sem] def lv203:List (Nat×List Nat):=[(2,[0,6,1,2]),(5,[7,0,1,2,6]),(6,[0,1,2,6,7]),(4,[0,1,2,6,7,30]),(3,[7,0,1,2,6]),(1,[0,1,2,6,12]),(0,[0,6,1,2])]
def ann203:Ann:=⟨[],[],lv203,[(4,[7,0,1,2,6]),(1,[0,6,1,2])]⟩
@[go_sem] theorem ann203_s:ann203.imm=[]∧ann203.frz=[]∧ann203.live=lv203∧ann203.head=[(4,[7,0,1,2,6]),(1,[0,6,1,2])]:=⟨rfl,rfl,rfl,rfl⟩
@[go_sem] def lv214:List (Nat×List Nat):=[(12,[2,3]),(11,[2,3]),(10,[4,40]),(6,[5,0,4]),(9,[0,4,5]),(8,[2,3]),(7,[0,5,4,29]),(5,[0,5,4,22]),(4,[5,0,4]),(3,[0,4]),(2,[2,3]),(1,[0,18]),(0,[0])]
def ann214:Ann:=⟨[],[],lv214,[(5,[5,0,4])]⟩
@[go_sem] theorem ann214_s:ann214.imm=[]∧ann214.frz=[]∧ann214.live=lv214∧ann214.head=[(5,[5,0,4])]:=⟨rfl,rfl,rfl,rfl⟩
def ann215:Ann:=⟨[],[],[(1,[2]),(0,[0])],[]⟩
@[go_sem] theorem ann215_s:ann215.imm=[]∧ann215.frz=[]∧ann215.live=[(1,[2]),(0,[0])]∧ann215.head=[]:=⟨rfl,rfl,rfl,rfl⟩
@[go_sem] def lv216:List (Nat×List Nat):=[(4,[4,5,6]),(3,[4,5,6]),(2,[1,7,0,12]),(1,[1,7,0]),(0,[1,0])]
def ann216:Ann:=⟨[],[],lv216,[]⟩
@[go_sem] theorem ann216_s:ann216.imm=[]∧ann216.frz=[]∧ann216.live=lv216∧ann216.head=[]:=⟨rfl,rfl,rfl,rfl⟩
@[go_sem] def lv218:List (Nat×List Nat):=[(10,[4]),(9,[25,23,24]),(8,[4]),(7,[23,24,25,36]),(6,[23,24,25,7]),(5,[23,24,25,6]),(4,[23,24,25,26]),(3,[25,23,24]),(2,[4]),(1,[0,21]),(0,[0,1])]
def ann218:Ann:=⟨[],[],lv218,[(4,[25,23,24])]⟩
@[go_sem] theorem ann218_s:ann218.imm=[]∧ann218.frz=[]∧ann218.live=lv218∧ann218.head=[(4,[25,23,24])]:=⟨rfl,rfl,rfl,rfl⟩
@[go_sem] def lv219:List (Nat×List Nat):=[(7,[6]),(5,[7,2,4,0]),(6,[2,4,0,7]),(4,[2,4,7,0,27]),(3,[7,2,4,0]),(2,[6]),(1,[2,4,0,16]),(0,[2,4,0])]
def ann219:Ann:=⟨[4],[],lv219,[(4,[7,2,4,0])]⟩
@[go_sem] theorem ann219_s:ann219.imm=[4]∧ann219.frz=[]∧ann219.live=lv219∧ann219.head=[(4,[7,2,4,0])]:=⟨rfl,rfl,rfl,rfl⟩
def ann220:Ann:=⟨[],[],[(3,[4]),(2,[4]),(1,[4,0,14]),(0,[4,0,1])],[]⟩
@[go_sem] theorem ann220_s:ann220.imm=[]∧ann220.frz=[]∧ann220.live=[(3,[4]),(2,[4]),(1,[4,0,14]),(0,[4,0,1])]∧ann220.head=[]:=⟨rfl,rfl,rfl,rfl⟩
@[go_sem] def lv221:List (Nat×List Nat):=[(5,[2]),(4,[2,3,4]),(3,[2,3]),(2,[2,3,5]),(1,[2,3,0]),(0,[2,0])]
def ann221:Ann:=⟨[],[],lv221,[]⟩
@[go_sem] theorem ann221_s:ann221.imm=[]∧ann221.frz=[]∧ann221.live=lv221∧ann221.head=[]:=⟨rfl,rfl,rfl,rfl⟩
def ann222:Ann:=⟨[],[],[(1,[0]),(0,[0])],[]⟩
@[go_sem] theorem ann222_s:ann222.imm=[]∧ann222.frz=[]∧ann222.live=[(1,[0]),(0,[0])]∧ann222.head=[]:=⟨rfl,rfl,rfl,rfl⟩
def ann223:Ann:=⟨[],[],[(1,[2]),(0,[0])],[]⟩
@[go_sem] theorem ann223_s:ann223.imm=[]∧ann223.frz=[]∧ann223.live=[(1,[2]),(0,[0])]∧ann223.head=[]:=⟨rfl,rfl,rfl,rfl⟩
def ann225:Ann:=⟨[],[],[(1,[0]),(0,[0])],[]⟩
@[go_sem] theorem ann225_s:ann225.imm=[]∧ann225.frz=[]∧ann225.live=[(1,[0]),(0,[0])]∧ann225.head=[]:=⟨rfl,rfl,rfl,rfl⟩
@[go_sem] def lv226:List (Nat×List Nat):=[(11,[10]),(9,[12,11,5,4,3,2,1,10]),(10,[11,5,4,3,2,1,10,12]),(8,[11,5,4,3,2,1,10,12,45]),(7,[12,11,5,4,3,2,1,10]),(6,[11,5,4,3,2,1,10]),(5,[11,5,4,3,2,1,10]),(4,[11,5,4,3,2,1,10]),(3,[11,5,4,3,2,1,10]),(2,[11,5,4,3,2,1,10,22]),(1,[11,5,4,3,2,1,10]),(0,[5,4,3,2,1,10])]
def ann226:Ann:=⟨[5],[],lv226,[(8,[12,11,5,4,3,2,1,10])]⟩
@[go_sem] theorem ann226_s:ann226.imm=[5]∧ann226.frz=[]∧ann226.live=lv226∧ann226.head=[(8,[12,11,5,4,3,2,1,10])]:=⟨rfl,rfl,rfl,rfl⟩
def ann227:Ann:=⟨[4,5],[],[(1,[6]),(0,[6,5,4,0])],[]⟩
@[go_sem] theorem ann227_s:ann227.imm=[4,5]∧ann227.frz=[]∧ann227.live=[(1,[6]),(0,[6,5,4,0])]∧ann227.head=[]:=⟨rfl,rfl,rfl,rfl⟩
def ann228:Ann:=⟨[2],[],[(1,[4]),(0,[4,1,2])],[]⟩
@[go_sem] theorem ann228_s:ann228.imm=[2]∧ann228.frz=[]∧ann228.live=[(1,[4]),(0,[4,1,2])]∧ann228.head=[]:=⟨rfl,rfl,rfl,rfl⟩
def ann229:Ann:=⟨[],[],[(1,[2]),(0,[0])],[]⟩
@[go_sem] theorem ann229_s:ann229.imm=[]∧ann229.frz=[]∧ann229.live=[(1,[2]),(0,[0])]∧ann229.head=[]:=⟨rfl,rfl,rfl,rfl⟩
def ann230:Ann:=⟨[],[],[(1,[2]),(0,[0])],[]⟩
@[go_sem] theorem ann230_s:ann230.imm=[]∧ann230.frz=[]∧ann230.live=[(1,[2]),(0,[0])]∧ann230.head=[]:=⟨rfl,rfl,rfl,rfl⟩
def ann231:Ann:=⟨[],[],[(1,[2]),(0,[0])],[]⟩
@[go_sem] theorem ann231_s:ann231.imm=[]∧ann231.frz=[]∧ann231.live=[(1,[2]),(0,[0])]∧ann231.head=[]:=⟨rfl,rfl,rfl,rfl⟩
def ann232:Ann:=⟨[2,3],[],[(1,[4]),(0,[3,2])],[]⟩
@[go_sem] theorem ann232_s:ann232.imm=[2,3]∧ann232.frz=[]∧ann232.live=[(1,[4]),(0,[3,2])]∧ann232.head=[]:=⟨rfl,rfl,rfl,rfl⟩
def ann239:Ann:=⟨[],[],[(1,[2]),(0,[0])],[]⟩
@[go_sem] theorem ann239_s:ann239.imm=[]∧ann239.frz=[]∧ann239.live=[(1,[2]),(0,[0])]∧ann239.head=[]:=⟨rfl,rfl,rfl,rfl⟩
@[go_sem] def lv243:List (Nat×List Nat):=[(13,[4]),(12,[5]),(11,[1,5,42]),(5,[7,0,1,5,6]),(10,[0,1,5,6,7]),(9,[0,1,6,7,5,33]),(8,[0,1,6,7,5]),(7,[0,1,7,5]),(6,[0,1,7,5,6,23]),(4,[0,1,7,5,6,11]),(3,[7,0,1,5,6]),(2,[0,1,5,6]),(1,[0,1,5]),(0,[0,1])]
def ann243:Ann:=⟨[],[],lv243,[(4,[7,0,1,5,6])]⟩
@[go_sem] theorem ann243_s:ann243.imm=[]∧ann243.frz=[]∧ann243.live=lv243∧ann243.head=[(4,[7,0,1,5,6])]:=⟨rfl,rfl,rfl,rfl⟩
def ann244:Ann:=⟨[2],[],[(3,[4]),(2,[4]),(1,[1,7]),(0,[1,2])],[]⟩
@[go_sem] theorem ann244_s:ann244.imm=[2]∧ann244.frz=[]∧ann244.live=[(3,[4]),(2,[4]),(1,[1,7]),(0,[1,2])]∧ann244.head=[]:=⟨rfl,rfl,rfl,rfl⟩
def ann245:Ann:=⟨[],[],[(2,[0]),(1,[0,1]),(0,[0])],[]⟩
@[go_sem] theorem ann245_s:ann245.imm=[]∧ann245.frz=[]∧ann245.live=[(2,[0]),(1,[0,1]),(0,[0])]∧ann245.head=[]:=⟨rfl,rfl,rfl,rfl⟩
@[go_sem] def lv247:List (Nat×List Nat):=[(3,[6]),(2,[6]),(1,[6,3,2,1,8]),(0,[6,3,2,1])]
def ann247:Ann:=⟨[3],[],lv247,[]⟩
@[go_sem] theorem ann247_s:ann247.imm=[3]∧ann247.frz=[]∧ann247.live=lv247∧ann247.head=[]:=⟨rfl,rfl,rfl,rfl⟩
@[go_sem] def lv248:List (Nat×List Nat):=[(12,[6]),(10,[8,2,3,1,7,6]),(11,[2,3,1,7,6,8]),(9,[2,3,1,6,8,7,43]),(8,[8,2,3,1,7,6]),(7,[2,3,1,7,6]),(6,[6]),(5,[6]),(4,[6,2,3,1,23]),(3,[6]),(2,[6,3,2,1,15]),(1,[6,3,2,1,11]),(0,[6,3,2,1])]
def ann248:Ann:=⟨[3],[],lv248,[(9,[8,2,3,1,7,6])]⟩
@[go_sem] theorem ann248_s:ann248.imm=[3]∧ann248.frz=[]∧ann248.live=lv248∧ann248.head=[(9,[8,2,3,1,7,6])]:=⟨rfl,rfl,rfl,rfl⟩
def ann249:Ann:=⟨[2,3],[],[(1,[4]),(0,[3,2])],[]⟩
@[go_sem] theorem ann249_s:ann249.imm=[2,3]∧ann249.frz=[]∧ann249.live=[(1,[4]),(0,[3,2])]∧ann249.head=[]:=⟨rfl,rfl,rfl,rfl⟩
@[go_sem] def lv250:List (Nat×List Nat):=[(10,[6]),(9,[17,2,1,15,16]),(8,[6]),(7,[2,1,15,16,17,30]),(6,[2,1,15,16,17,9,8]),(5,[2,1,15,16,17,8,7]),(4,[2,1,15,16,17,18]),(3,[17,2,1,15,16]),(2,[6]),(1,[2,1,0,14]),(0,[2,1,0])]
def ann250:Ann:=⟨[],[],lv250,[(4,[17,2,1,15,16])]⟩
@[go_sem] theorem ann250_s:ann250.imm=[]∧ann250.frz=[]∧ann250.live=lv250∧ann250.head=[(4,[17,2,1,15,16])]:=⟨rfl,rfl,rfl,rfl⟩
@[go_sem] def lv252:List (Nat×List Nat):=[(6,[2]),(3,[3,0]),(5,[2]),(4,[0,3,14]),(2,[0,3,7]),(1,[3,0]),(0,[0])]
def ann252:Ann:=⟨[],[],lv252,[(2,[3,0])]⟩
@[go_sem] theorem ann252_s:ann252.imm=[]∧ann252.frz=[]∧ann252.live=lv252∧ann252.head=[(2,[3,0])]:=⟨rfl,rfl,rfl,rfl⟩
def ann262:Ann:=⟨[],[],[(1,[0]),(0,[0])],[]⟩
@[go_sem] theorem ann262_s:ann262.imm=[]∧ann262.frz=[]∧ann262.live=[(1,[0]),(0,[0])]∧ann262.head=[]:=⟨rfl,rfl,rfl,rfl⟩
@[go_sem] def lv264:List (Nat×List Nat):=[(11,[6]),(9,[8,2,3,1,7,6]),(10,[2,3,1,7,6,8]),(8,[2,3,1,6,8,7,28]),(7,[8,2,3,1,7,6]),(6,[2,3,1,7,6]),(5,[6]),(4,[6]),(3,[6,1,3,17]),(2,[6,1,3,2,13]),(1,[6,1,3,2]),(0,[6,1,3,2])]
def ann264:Ann:=⟨[3],[],lv264,[(8,[8,2,3,1,7,6])]⟩
@[go_sem] theorem ann264_s:ann264.imm=[3]∧ann264.frz=[]∧ann264.live=lv264∧ann264.head=[(8,[8,2,3,1,7,6])]:=⟨rfl,rfl,rfl,rfl⟩
def ann265:Ann:=⟨[2],[],[(1,[4]),(0,[4,1,2])],[]⟩
@[go_sem] theorem ann265_s:ann265.imm=[2]∧ann265.frz=[]∧ann265.live=[(1,[4]),(0,[4,1,2])]∧ann265.head=[]:=⟨rfl,rfl,rfl,rfl⟩
@[go_sem] def lv266:List (Nat×List Nat):=[(10,[6]),(9,[17,2,1,15,16]),(8,[6]),(7,[2,1,15,16,17,30]),(6,[2,1,15,16,17,9,8]),(5,[2,1,15,16,17,8,7]),(4,[2,1,15,16,17,18]),(3,[17,2,1,15,16]),(2,[6]),(1,[2,1,0,14]),(0,[2,1,0])]
def ann266:Ann:=⟨[],[],lv266,[(4,[17,2,1,15,16])]⟩
@[go_sem] theorem ann266_s:ann266.imm=[]∧ann266.frz=[]∧ann266.live=lv266∧ann266.head=[(4,[17,2,1,15,16])]:=⟨rfl,rfl,rfl,rfl⟩
theorem wf {f:FuncId}{fn:Func}{c:Code}{rv:List ResultVar}{args:List SV}{refs refs':List Box}{r:PV}(A:Ann) (n:Nat) (hf:Tryz.prog.funcs[f]? = some fn) (h:argsFit args→AWp Tryz.prog A c (finK Tryz.prog rv r refs') (start args refs))
  (hb:fn.body=some c:=by exact rfl) (hr:fn.results.toList=rv:=by exact rfl) (hk:fnChk fn n args.length c=true:=by kernel_rfl) (hlen:refs'.length=refs.length:=by exact rfl) (hnm:(refs'.flatMap fun b=>svNames b.c).all (isRefB refs.length)=true:=by exact rfl):Spec Tryz.prog f args refs r refs':=
 Spec.walk A n hf mixed hb hr hk hlen hnm h
theorem wk {f:FuncId}{fn:Func}{c:Code}{rv:List ResultVar}{args:List SV}{refs refs':List Box}{r:PV}(A:Ann) (n:Nat) (hf:Tryz.prog.funcs[f]? = some fn) (h:AWp Tryz.prog A c (finK Tryz.prog rv r refs') (start args refs))
  (hb:fn.body=some c:=by exact rfl) (hr:fn.results.toList=rv:=by exact rfl) (hk:fnChk fn n args.length c=true:=by kernel_rfl) (hlen:refs'.length=refs.length:=by exact rfl) (hnm:(refs'.flatMap fun b=>svNames b.c).all (isRefB refs.length)=true:=by exact rfl):Spec Tryz.prog f args refs r refs':=
 Spec.walk A n hf mixed hb hr hk hlen hnm fun _=>h
end Go.Abs.Kon