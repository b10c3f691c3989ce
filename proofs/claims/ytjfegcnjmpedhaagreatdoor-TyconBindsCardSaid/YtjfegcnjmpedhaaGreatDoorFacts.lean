/- Closed facts on the types and functions of this program, printed by a program and checked by the kernel. -/
import Derived.Test.YtjfegcnjmpedhaaGreatDoorAbsC
import Derived.Test.YtjfegcnjmpedhaaGreatDoorProg
set_option linter.unusedSimpArgs false
set_option linter.unusedVariables false
namespace Go.Abs.Kon
open Go Go.Proofs Go.Abs
theorem mixed : Tryz.prog.follows .mixedOrders = true := by kernel_rfl
@[go_sem] theorem sz3 : szOf Tryz.prog 3 = some Sz.one := by kernel_rfl
@[go_sem] theorem eq3 : eqTOf Tryz.prog 3 = EqT.other := by kernel_rfl
@[go_sem] theorem cv3 : cvTOf Tryz.prog 3 = CvT.int IntKind.i64 := by kernel_rfl
@[go_sem] theorem sz4 : szOf Tryz.prog 4 = some Sz.one := by kernel_rfl
@[go_sem] theorem zo4 : zeroOf Tryz.prog 4 = some (Sz.one, SV.one (SC.pv (PV.bool Bool.false))) := by kernel_rfl
@[go_sem] theorem sz5 : szOf Tryz.prog 5 = some Sz.one := by kernel_rfl
@[go_sem] theorem eq5 : eqTOf Tryz.prog 5 = EqT.other := by kernel_rfl
@[go_sem] theorem sz9 : szOf Tryz.prog 9 = some Sz.one := by kernel_rfl
@[go_sem] theorem eq9 : eqTOf Tryz.prog 9 = EqT.str := by kernel_rfl
@[go_sem] theorem sz22 : szOf Tryz.prog 22 = some Sz.one := by kernel_rfl
@[go_sem] theorem el22 : elemOf Tryz.prog 22 = some 24 := by kernel_rfl
@[go_sem] theorem es22 : elemSz Tryz.prog 22 = some (Sz.agg 1, 24) := by kernel_rfl
@[go_sem] theorem eq22 : eqTOf Tryz.prog 22 = EqT.other := by kernel_rfl
@[go_sem] theorem sz24 : szOf Tryz.prog 24 = some (Sz.agg 1) := by kernel_rfl
@[go_sem] theorem zo24 : zeroOf Tryz.prog 24 = some (Sz.agg 1, SV.agg [SC.nilS]) := by kernel_rfl
@[go_sem] theorem pl24 : placesOf Tryz.prog 24 = some [(0, Sz.one)] := by kernel_rfl
@[go_sem] theorem fo24_0 : fieldOff Tryz.prog 24 0 = some 0 := by kernel_rfl
@[go_sem] theorem sz25 : szOf Tryz.prog 25 = some Sz.one := by kernel_rfl
@[go_sem] theorem el25 : elemOf Tryz.prog 25 = some 9 := by kernel_rfl
@[go_sem] theorem es25 : elemSz Tryz.prog 25 = some (Sz.one, 16) := by kernel_rfl
@[go_sem] theorem eq25 : eqTOf Tryz.prog 25 = EqT.other := by kernel_rfl
@[go_sem] theorem sz26 : szOf Tryz.prog 26 = some Sz.one := by kernel_rfl
@[go_sem] theorem el26 : elemOf Tryz.prog 26 = some 28 := by kernel_rfl
@[go_sem] theorem es26 : elemSz Tryz.prog 26 = some (Sz.agg 6, 104) := by kernel_rfl
@[go_sem] theorem eq26 : eqTOf Tryz.prog 26 = EqT.other := by kernel_rfl
@[go_sem] theorem sz28 : szOf Tryz.prog 28 = some (Sz.agg 6) := by kernel_rfl
@[go_sem] theorem zo28 : zeroOf Tryz.prog 28 = some (Sz.agg 6, SV.agg [SC.pv (PV.int IntKind.i64 0), SC.pv (PV.int IntKind.i64 0), SC.pv (PV.str ByteArray.empty), SC.nilS, SC.nilS, SC.nilS]) := by kernel_rfl
@[go_sem] theorem pl28 : placesOf Tryz.prog 28 = some [(0, Sz.one), (1, Sz.one), (2, Sz.one), (3, Sz.agg 1), (4, Sz.one), (5, Sz.one)] := by kernel_rfl
@[go_sem] theorem fo28_0 : fieldOff Tryz.prog 28 0 = some 0 := by kernel_rfl
@[go_sem] theorem fo28_1 : fieldOff Tryz.prog 28 1 = some 1 := by kernel_rfl
@[go_sem] theorem fo28_2 : fieldOff Tryz.prog 28 2 = some 2 := by kernel_rfl
@[go_sem] theorem fo28_3 : fieldOff Tryz.prog 28 3 = some 3 := by kernel_rfl
@[go_sem] theorem fo28_4 : fieldOff Tryz.prog 28 4 = some 4 := by kernel_rfl
@[go_sem] theorem fo28_5 : fieldOff Tryz.prog 28 5 = some 5 := by kernel_rfl
@[go_sem] theorem sz29 : szOf Tryz.prog 29 = some Sz.one := by kernel_rfl
@[go_sem] theorem el29 : elemOf Tryz.prog 29 = some 36 := by kernel_rfl
@[go_sem] theorem es29 : elemSz Tryz.prog 29 = some (Sz.agg 2, 40) := by kernel_rfl
@[go_sem] theorem zo29 : zeroOf Tryz.prog 29 = some (Sz.one, SV.one SC.nilS) := by kernel_rfl
@[go_sem] theorem eq29 : eqTOf Tryz.prog 29 = EqT.other := by kernel_rfl
@[go_sem] theorem sz36 : szOf Tryz.prog 36 = some (Sz.agg 2) := by kernel_rfl
@[go_sem] theorem zo36 : zeroOf Tryz.prog 36 = some (Sz.agg 2, SV.agg [SC.pv (PV.str ByteArray.empty), SC.nilS]) := by kernel_rfl
@[go_sem] theorem pl36 : placesOf Tryz.prog 36 = some [(0, Sz.one), (1, Sz.agg 1)] := by kernel_rfl
@[go_sem] theorem fo36_0 : fieldOff Tryz.prog 36 0 = some 0 := by kernel_rfl
@[go_sem] theorem fo36_1 : fieldOff Tryz.prog 36 1 = some 1 := by kernel_rfl
@[go_sem] theorem sz68 : szOf Tryz.prog 68 = some Sz.one := by kernel_rfl
@[go_sem] theorem el68 : elemOf Tryz.prog 68 = some 3 := by kernel_rfl
@[go_sem] theorem es68 : elemSz Tryz.prog 68 = some (Sz.one, 8) := by kernel_rfl
@[go_sem] theorem zo68 : zeroOf Tryz.prog 68 = some (Sz.one, SV.one SC.nilS) := by kernel_rfl
@[go_sem] theorem eq68 : eqTOf Tryz.prog 68 = EqT.other := by kernel_rfl
@[go_sem] theorem sz86 : szOf Tryz.prog 86 = some Sz.one := by kernel_rfl
@[go_sem] theorem el102 : elemOf Tryz.prog 102 = some 26 := by kernel_rfl
@[go_sem] theorem es102 : elemSz Tryz.prog 102 = some (Sz.one, 24) := by kernel_rfl
@[go_sem] theorem eq102 : eqTOf Tryz.prog 102 = EqT.other := by kernel_rfl
@[go_sem] theorem sz108 : szOf Tryz.prog 108 = some (Sz.agg 2) := by kernel_rfl
@[go_sem] theorem zo108 : zeroOf Tryz.prog 108 = some (Sz.agg 2, SV.agg [SC.pv PV.nilfn, SC.pv (PV.int IntKind.i64 0)]) := by kernel_rfl
@[go_sem] theorem pl108 : placesOf Tryz.prog 108 = some [(0, Sz.one), (1, Sz.one)] := by kernel_rfl
@[go_sem] theorem fo108_0 : fieldOff Tryz.prog 108 0 = some 0 := by kernel_rfl
@[go_sem] theorem fo108_1 : fieldOff Tryz.prog 108 1 = some 1 := by kernel_rfl
@[go_sem] theorem cv113 : cvTOf Tryz.prog 113 = CvT.int IntKind.u64 := by kernel_rfl
@[go_sem] theorem el151 : elemOf Tryz.prog 151 = some 5 := by kernel_rfl
@[go_sem] theorem es151 : elemSz Tryz.prog 151 = some (Sz.one, 1) := by kernel_rfl
@[go_sem] theorem eq151 : eqTOf Tryz.prog 151 = EqT.other := by kernel_rfl
@[go_sem] theorem cv151 : cvTOf Tryz.prog 151 = CvT.bytes := by kernel_rfl
@[go_sem] theorem eq161 : eqTOf Tryz.prog 161 = EqT.iface := by kernel_rfl
@[go_sem] def lv3 : List (Nat × List Nat) := [(41, [6]), (36, [6]), (38, [6]), (40, [6]), (39, [12, 11, 2, 3, 215]), (37, [12, 11, 2, 3, 16, 205]), (35, [12, 11, 2, 3, 16, 197]), (34, [171, 17, 16, 169, 12, 11, 2, 3, 170]), (33, [17, 16, 169, 12, 11, 2, 3, 170, 171]), (32, [16, 169, 12, 11, 2, 3, 170, 171, 19, 17]), (31, [169, 12, 11, 2, 3, 170, 171, 19, 17, 16]), (30, [169, 12, 11, 2, 3, 170, 171, 17, 16, 172]), (29, [171, 17, 16, 169, 12, 11, 2, 3, 170]), (28, [17, 16, 12, 11, 2, 3]), (27, [16, 12, 11, 2, 3, 13]), (20, [6]), (19, [12, 11, 2, 3, 13, 139]), (23, [6]), (22, [12, 11, 2, 3, 13, 150]), (26, [6]), (25, [12, 11, 2, 3, 13, 166]), (17, [6]), (16, [12, 11, 2, 3, 13, 125]), (24, [12, 11, 2, 3, 13, 10, 9, 1, 151]), (21, [12, 11, 2, 3, 13, 10, 9, 1, 140]), (18, [12, 11, 2, 3, 13, 10, 9, 1, 126]), (12, [6]), (11, [12, 11, 2, 3, 13, 10, 9, 1, 108]), (15, [6]), (14, [12, 11, 2, 3, 13, 10, 9, 1, 118]), (9, [6]), (8, [12, 11, 2, 3, 13, 10, 9, 1, 98]), (13, [12, 11, 2, 3, 13, 10, 9, 1, 8, 7, 14, 109]), (10, [12, 11, 2, 3, 13, 10, 9, 1, 8, 7, 14, 15, 99]), (7, [12, 11, 2, 3, 13, 10, 9, 1, 8, 7, 14, 15]), (6, [12, 11, 2, 3, 13, 10, 9, 1, 8, 7]), (5, [12, 11, 2, 3, 10, 9, 1, 8, 7]), (4, [2, 3, 10, 9, 1, 8, 7]), (3, [2, 3, 1, 8, 7]), (2, [6]), (1, [2, 3, 1, 65]), (0, [2, 3, 1])]
def ann3 : Ann := ⟨[3], [], lv3, [(30, [171, 17, 16, 169, 12, 11, 2, 3, 170])]⟩
@[go_sem] theorem ann3_imm : ann3.imm = [3] := rfl
@[go_sem] theorem ann3_frz : ann3.frz = [] := rfl
@[go_sem] theorem ann3_live : ann3.live = lv3 := rfl
@[go_sem] theorem ann3_head : ann3.head = [(30, [171, 17, 16, 169, 12, 11, 2, 3, 170])] := rfl
@[go_sem] def lv4 : List (Nat × List Nat) := [(22, [4]), (21, [2, 20, 21, 18, 19]), (20, [2, 18, 19, 13, 17]), (19, [4]), (18, [6, 2, 13, 17, 117]), (17, [6, 2, 13, 17]), (16, [100, 14, 98, 2, 13, 99]), (15, [14, 98, 2, 13, 99, 100]), (14, [98, 2, 13, 99, 100, 16, 14]), (13, [98, 2, 13, 99, 100, 14, 101]), (12, [100, 14, 98, 2, 13, 99]), (11, [14, 2, 13]), (10, [4]), (9, [13, 6, 2, 90]), (8, [13, 6, 2]), (7, [4]), (6, [2, 83]), (5, [2, 1, 11, 8, 10, 7, 12, 9, 6]), (4, [2, 1, 8, 7, 9, 6]), (3, [2, 1, 6, 5]), (2, [4]), (1, [2, 1, 39]), (0, [2, 1])]
def ann4 : Ann := ⟨[2], [], lv4, [(13, [100, 14, 98, 2, 13, 99])]⟩
@[go_sem] theorem ann4_imm : ann4.imm = [2] := rfl
@[go_sem] theorem ann4_frz : ann4.frz = [] := rfl
@[go_sem] theorem ann4_live : ann4.live = lv4 := rfl
@[go_sem] theorem ann4_head : ann4.head = [(13, [100, 14, 98, 2, 13, 99])] := rfl
@[go_sem] def lv5 : List (Nat × List Nat) := [(5, [0]), (4, [7, 6, 5, 4, 3, 2]), (3, [5, 4, 3, 2, 1]), (2, [3, 2, 1]), (1, [1]), (0, [])]
def ann5 : Ann := ⟨[], [], lv5, []⟩
@[go_sem] theorem ann5_imm : ann5.imm = [] := rfl
@[go_sem] theorem ann5_frz : ann5.frz = [] := rfl
@[go_sem] theorem ann5_live : ann5.live = lv5 := rfl
@[go_sem] theorem ann5_head : ann5.head = [] := rfl
def ann6 : Ann := ⟨[], [], [(1, [2]), (0, [0])], []⟩
@[go_sem] theorem ann6_imm : ann6.imm = [] := rfl
@[go_sem] theorem ann6_frz : ann6.frz = [] := rfl
@[go_sem] theorem ann6_live : ann6.live = [(1, [2]), (0, [0])] := rfl
@[go_sem] theorem ann6_head : ann6.head = [] := rfl
def ann7 : Ann := ⟨[], [], [(1, [4]), (0, [1, 0])], []⟩
@[go_sem] theorem ann7_imm : ann7.imm = [] := rfl
@[go_sem] theorem ann7_frz : ann7.frz = [] := rfl
@[go_sem] theorem ann7_live : ann7.live = [(1, [4]), (0, [1, 0])] := rfl
@[go_sem] theorem ann7_head : ann7.head = [] := rfl
def ann8 : Ann := ⟨[], [], [(1, [2]), (0, [0])], []⟩
@[go_sem] theorem ann8_imm : ann8.imm = [] := rfl
@[go_sem] theorem ann8_frz : ann8.frz = [] := rfl
@[go_sem] theorem ann8_live : ann8.live = [(1, [2]), (0, [0])] := rfl
@[go_sem] theorem ann8_head : ann8.head = [] := rfl
def ann9 : Ann := ⟨[], [], [(1, [4]), (0, [1, 0])], []⟩
@[go_sem] theorem ann9_imm : ann9.imm = [] := rfl
@[go_sem] theorem ann9_frz : ann9.frz = [] := rfl
@[go_sem] theorem ann9_live : ann9.live = [(1, [4]), (0, [1, 0])] := rfl
@[go_sem] theorem ann9_head : ann9.head = [] := rfl
def ann10 : Ann := ⟨[1], [], [(1, [2]), (0, [1])], []⟩
@[go_sem] theorem ann10_imm : ann10.imm = [1] := rfl
@[go_sem] theorem ann10_frz : ann10.frz = [] := rfl
@[go_sem] theorem ann10_live : ann10.live = [(1, [2]), (0, [1])] := rfl
@[go_sem] theorem ann10_head : ann10.head = [] := rfl
@[go_sem] def lv11 : List (Nat × List Nat) := [(11, [6]), (10, [1, 16, 2, 7, 14, 15]), (9, [1, 2, 7, 14, 15, 16]), (8, [6]), (7, [1, 2, 14, 15, 16, 7, 9, 22]), (6, [1, 2, 14, 15, 16, 7, 9]), (5, [1, 2, 14, 15, 16, 7, 17]), (4, [1, 16, 2, 7, 14, 15]), (3, [1, 2, 7, 3]), (2, [6]), (1, [1, 2, 3, 11]), (0, [1, 2, 3])]
def ann11 : Ann := ⟨[3], [], lv11, [(5, [1, 16, 2, 7, 14, 15])]⟩
@[go_sem] theorem ann11_imm : ann11.imm = [3] := rfl
@[go_sem] theorem ann11_frz : ann11.frz = [] := rfl
@[go_sem] theorem ann11_live : ann11.live = lv11 := rfl
@[go_sem] theorem ann11_head : ann11.head = [(5, [1, 16, 2, 7, 14, 15])] := rfl
@[go_sem] def lv12 : List (Nat × List Nat) := [(9, [2, 3]), (8, [4]), (7, [2, 3]), (6, [4, 12]), (5, [4, 5]), (4, [4, 5, 1]), (3, [4, 1]), (2, [2, 3]), (1, [1, 8]), (0, [1])]
def ann12 : Ann := ⟨[1], [], lv12, []⟩
@[go_sem] theorem ann12_imm : ann12.imm = [1] := rfl
@[go_sem] theorem ann12_frz : ann12.frz = [] := rfl
@[go_sem] theorem ann12_live : ann12.live = lv12 := rfl
@[go_sem] theorem ann12_head : ann12.head = [] := rfl
@[go_sem] def lv13 : List (Nat × List Nat) := [(6, [4, 5]), (5, [4, 5]), (4, [4, 6, 3, 2, 14]), (3, [4, 6, 3, 2]), (2, [4, 5]), (1, [4, 3, 2, 9]), (0, [4, 3, 2])]
def ann13 : Ann := ⟨[2, 3], [], lv13, []⟩
@[go_sem] theorem ann13_imm : ann13.imm = [2, 3] := rfl
@[go_sem] theorem ann13_frz : ann13.frz = [] := rfl
@[go_sem] theorem ann13_live : ann13.live = lv13 := rfl
@[go_sem] theorem ann13_head : ann13.head = [] := rfl
@[go_sem] def lv14 : List (Nat × List Nat) := [(12, [4, 5]), (11, [4, 5]), (10, [4, 9, 3, 2, 33]), (9, [4, 9, 3, 2]), (8, [20, 6, 18, 4, 3, 2, 19]), (7, [6, 18, 4, 3, 2, 19, 20]), (6, [18, 4, 3, 2, 19, 20, 8, 6]), (5, [18, 4, 3, 2, 19, 20, 6, 21]), (4, [20, 6, 18, 4, 3, 2, 19]), (3, [6, 4, 3, 2]), (2, [4, 5]), (1, [4, 3, 2, 16]), (0, [4, 3, 2])]
def ann14 : Ann := ⟨[2, 3], [], lv14, [(5, [20, 6, 18, 4, 3, 2, 19])]⟩
@[go_sem] theorem ann14_imm : ann14.imm = [2, 3] := rfl
@[go_sem] theorem ann14_frz : ann14.frz = [] := rfl
@[go_sem] theorem ann14_live : ann14.live = lv14 := rfl
@[go_sem] theorem ann14_head : ann14.head = [(5, [20, 6, 18, 4, 3, 2, 19])] := rfl
def ann15 : Ann := ⟨[1], [], [(1, [2]), (0, [1])], []⟩
@[go_sem] theorem ann15_imm : ann15.imm = [1] := rfl
@[go_sem] theorem ann15_frz : ann15.frz = [] := rfl
@[go_sem] theorem ann15_live : ann15.live = [(1, [2]), (0, [1])] := rfl
@[go_sem] theorem ann15_head : ann15.head = [] := rfl
def ann16 : Ann := ⟨[1], [], [(1, [2, 3]), (0, [1])], []⟩
@[go_sem] theorem ann16_imm : ann16.imm = [1] := rfl
@[go_sem] theorem ann16_frz : ann16.frz = [] := rfl
@[go_sem] theorem ann16_live : ann16.live = [(1, [2, 3]), (0, [1])] := rfl
@[go_sem] theorem ann16_head : ann16.head = [] := rfl
@[go_sem] def lv17 : List (Nat × List Nat) := [(8, [4]), (5, [5, 1, 0]), (7, [4]), (6, [1, 0, 5, 41]), (4, [1, 0, 5, 14]), (3, [5, 1, 0]), (2, [4]), (1, [1, 0, 10]), (0, [1, 0])]
def ann17 : Ann := ⟨[], [], lv17, [(4, [5, 1, 0])]⟩
@[go_sem] theorem ann17_imm : ann17.imm = [] := rfl
@[go_sem] theorem ann17_frz : ann17.frz = [] := rfl
@[go_sem] theorem ann17_live : ann17.live = lv17 := rfl
@[go_sem] theorem ann17_head : ann17.head = [(4, [5, 1, 0])] := rfl
def ann18 : Ann := ⟨[], [], [(1, [2]), (0, [0])], []⟩
@[go_sem] theorem ann18_imm : ann18.imm = [] := rfl
@[go_sem] theorem ann18_frz : ann18.frz = [] := rfl
@[go_sem] theorem ann18_live : ann18.live = [(1, [2]), (0, [0])] := rfl
@[go_sem] theorem ann18_head : ann18.head = [] := rfl
@[go_sem] def lv19 : List (Nat × List Nat) := [(9, [2]), (5, [3, 0]), (8, [2]), (7, [5, 3, 0]), (6, [3, 0, 18]), (4, [3, 0, 12]), (3, [3, 0]), (2, [2]), (1, [0, 8]), (0, [0])]
def ann19 : Ann := ⟨[], [], lv19, [(4, [3, 0])]⟩
@[go_sem] theorem ann19_imm : ann19.imm = [] := rfl
@[go_sem] theorem ann19_frz : ann19.frz = [] := rfl
@[go_sem] theorem ann19_live : ann19.live = lv19 := rfl
@[go_sem] theorem ann19_head : ann19.head = [(4, [3, 0])] := rfl
def ann20 : Ann := ⟨[1], [], [(1, [2]), (0, [1])], []⟩
@[go_sem] theorem ann20_imm : ann20.imm = [1] := rfl
@[go_sem] theorem ann20_frz : ann20.frz = [] := rfl
@[go_sem] theorem ann20_live : ann20.live = [(1, [2]), (0, [1])] := rfl
@[go_sem] theorem ann20_head : ann20.head = [] := rfl
def ann22 : Ann := ⟨[], [], [(3, [2]), (2, [3]), (1, [3]), (0, [0])], []⟩
@[go_sem] theorem ann22_imm : ann22.imm = [] := rfl
@[go_sem] theorem ann22_frz : ann22.frz = [] := rfl
@[go_sem] theorem ann22_live : ann22.live = [(3, [2]), (2, [3]), (1, [3]), (0, [0])] := rfl
@[go_sem] theorem ann22_head : ann22.head = [] := rfl
def ann23 : Ann := ⟨[1], [], [(1, [2]), (0, [1])], []⟩
@[go_sem] theorem ann23_imm : ann23.imm = [1] := rfl
@[go_sem] theorem ann23_frz : ann23.frz = [] := rfl
@[go_sem] theorem ann23_live : ann23.live = [(1, [2]), (0, [1])] := rfl
@[go_sem] theorem ann23_head : ann23.head = [] := rfl
def ann24 : Ann := ⟨[3, 5], [], [(3, [6]), (2, [6]), (1, [1, 3, 5, 9]), (0, [1, 3, 5])], []⟩
@[go_sem] theorem ann24_imm : ann24.imm = [3, 5] := rfl
@[go_sem] theorem ann24_frz : ann24.frz = [] := rfl
@[go_sem] theorem ann24_live : ann24.live = [(3, [6]), (2, [6]), (1, [1, 3, 5, 9]), (0, [1, 3, 5])] := rfl
@[go_sem] theorem ann24_head : ann24.head = [] := rfl
def ann25 : Ann := ⟨[2], [], [(1, [4]), (0, [4, 1, 2])], []⟩
@[go_sem] theorem ann25_imm : ann25.imm = [2] := rfl
@[go_sem] theorem ann25_frz : ann25.frz = [] := rfl
@[go_sem] theorem ann25_live : ann25.live = [(1, [4]), (0, [4, 1, 2])] := rfl
@[go_sem] theorem ann25_head : ann25.head = [] := rfl
@[go_sem] def lv26 : List (Nat × List Nat) := [(8, [4]), (5, [5, 3, 2]), (7, [4]), (6, [3, 2, 5, 68]), (4, [3, 2, 5, 54]), (3, [5, 3, 2]), (2, [4]), (1, [3, 2, 49]), (0, [3, 2])]
def ann26 : Ann := ⟨[2, 3], [], lv26, [(4, [5, 3, 2])]⟩
@[go_sem] theorem ann26_imm : ann26.imm = [2, 3] := rfl
@[go_sem] theorem ann26_frz : ann26.frz = [] := rfl
@[go_sem] theorem ann26_live : ann26.live = lv26 := rfl
@[go_sem] theorem ann26_head : ann26.head = [(4, [5, 3, 2])] := rfl
@[go_sem] def lv27 : List (Nat × List Nat) := [(6, [4]), (4, [6, 1, 5, 4, 2]), (5, [1, 5, 4, 2, 6]), (3, [1, 4, 2, 6, 5, 11]), (2, [6, 1, 5, 4, 2]), (1, [1, 5, 4, 2]), (0, [1, 4, 2])]
def ann27 : Ann := ⟨[2], [], lv27, [(3, [6, 1, 5, 4, 2])]⟩
@[go_sem] theorem ann27_imm : ann27.imm = [2] := rfl
@[go_sem] theorem ann27_frz : ann27.frz = [] := rfl
@[go_sem] theorem ann27_live : ann27.live = lv27 := rfl
@[go_sem] theorem ann27_head : ann27.head = [(3, [6, 1, 5, 4, 2])] := rfl
def ann28 : Ann := ⟨[], [], [(1, [2]), (0, [0])], []⟩
@[go_sem] theorem ann28_imm : ann28.imm = [] := rfl
@[go_sem] theorem ann28_frz : ann28.frz = [] := rfl
@[go_sem] theorem ann28_live : ann28.live = [(1, [2]), (0, [0])] := rfl
@[go_sem] theorem ann28_head : ann28.head = [] := rfl
@[go_sem] def lv29 : List (Nat × List Nat) := [(21, [4, 5]), (20, [4, 5]), (19, [4, 9, 60]), (18, [48, 9, 46, 4, 47]), (17, [9, 46, 4, 47, 48]), (16, [9, 46, 4, 47, 48, 11]), (15, [9, 46, 4, 47, 48, 49]), (14, [48, 9, 46, 4, 47]), (13, [9, 4, 1]), (12, [4, 5]), (11, [4, 1, 2, 42]), (10, [32, 6, 30, 4, 1, 2, 31]), (9, [6, 30, 4, 1, 2, 31, 32]), (8, [30, 4, 1, 2, 31, 32, 8, 6]), (7, [30, 4, 1, 2, 31, 32, 6, 33]), (6, [32, 6, 30, 4, 1, 2, 31]), (5, [6, 4, 1, 2]), (4, [4, 5]), (3, [4, 1, 2, 23]), (2, [4, 5]), (1, [4, 1, 2, 19]), (0, [4, 1, 2])]
def ann29 : Ann := ⟨[2], [], lv29, [(15, [48, 9, 46, 4, 47]), (7, [32, 6, 30, 4, 1, 2, 31])]⟩
@[go_sem] theorem ann29_imm : ann29.imm = [2] := rfl
@[go_sem] theorem ann29_frz : ann29.frz = [] := rfl
@[go_sem] theorem ann29_live : ann29.live = lv29 := rfl
@[go_sem] theorem ann29_head : ann29.head = [(15, [48, 9, 46, 4, 47]), (7, [32, 6, 30, 4, 1, 2, 31])] := rfl
def ann31 : Ann := ⟨[2, 3], [], [(1, [4]), (0, [3, 2])], []⟩
@[go_sem] theorem ann31_imm : ann31.imm = [2, 3] := rfl
@[go_sem] theorem ann31_frz : ann31.frz = [] := rfl
@[go_sem] theorem ann31_live : ann31.live = [(1, [4]), (0, [3, 2])] := rfl
@[go_sem] theorem ann31_head : ann31.head = [] := rfl
@[go_sem] def lv32 : List (Nat × List Nat) := [(10, [6]), (9, [17, 2, 1, 15, 16]), (8, [6]), (7, [2, 1, 15, 16, 17, 30]), (6, [2, 1, 15, 16, 17, 9, 8]), (5, [2, 1, 15, 16, 17, 8, 7]), (4, [2, 1, 15, 16, 17, 18]), (3, [17, 2, 1, 15, 16]), (2, [6]), (1, [2, 1, 0, 14]), (0, [2, 1, 0])]
def ann32 : Ann := ⟨[], [], lv32, [(4, [17, 2, 1, 15, 16])]⟩
@[go_sem] theorem ann32_imm : ann32.imm = [] := rfl
@[go_sem] theorem ann32_frz : ann32.frz = [] := rfl
@[go_sem] theorem ann32_live : ann32.live = lv32 := rfl
@[go_sem] theorem ann32_head : ann32.head = [(4, [17, 2, 1, 15, 16])] := rfl
@[go_sem] def lv33 : List (Nat × List Nat) := [(15, [2]), (14, [27, 6, 25, 26]), (13, [6, 25, 26, 27]), (12, [25, 26, 27, 8, 6]), (11, [25, 26, 27, 6, 28]), (10, [27, 6, 25, 26]), (9, [6, 0]), (8, [11, 3, 9, 0, 10]), (7, [3, 9, 0, 10, 11]), (6, [3, 9, 0, 10, 11, 20]), (5, [3, 9, 0, 10, 11]), (4, [9, 0, 10, 11, 5, 3]), (3, [9, 0, 10, 11, 3, 12]), (2, [11, 3, 9, 0, 10]), (1, [3, 0]), (0, [0])]
def ann33 : Ann := ⟨[], [], lv33, [(11, [27, 6, 25, 26]), (3, [11, 3, 9, 0, 10])]⟩
@[go_sem] theorem ann33_imm : ann33.imm = [] := rfl
@[go_sem] theorem ann33_frz : ann33.frz = [] := rfl
@[go_sem] theorem ann33_live : ann33.live = lv33 := rfl
@[go_sem] theorem ann33_head : ann33.head = [(11, [27, 6, 25, 26]), (3, [11, 3, 9, 0, 10])] := rfl
def ann34 : Ann := ⟨[4, 5], [], [(1, [6]), (0, [6, 5, 4, 0])], []⟩
@[go_sem] theorem ann34_imm : ann34.imm = [4, 5] := rfl
@[go_sem] theorem ann34_frz : ann34.frz = [] := rfl
@[go_sem] theorem ann34_live : ann34.live = [(1, [6]), (0, [6, 5, 4, 0])] := rfl
@[go_sem] theorem ann34_head : ann34.head = [] := rfl
def ann35 : Ann := ⟨[2, 3], [], [(1, [4]), (0, [4, 3, 2])], []⟩
@[go_sem] theorem ann35_imm : ann35.imm = [2, 3] := rfl
@[go_sem] theorem ann35_frz : ann35.frz = [] := rfl
@[go_sem] theorem ann35_live : ann35.live = [(1, [4]), (0, [4, 3, 2])] := rfl
@[go_sem] theorem ann35_head : ann35.head = [] := rfl
def ann36 : Ann := ⟨[], [], [(1, [2]), (0, [2, 0])], []⟩
@[go_sem] theorem ann36_imm : ann36.imm = [] := rfl
@[go_sem] theorem ann36_frz : ann36.frz = [] := rfl
@[go_sem] theorem ann36_live : ann36.live = [(1, [2]), (0, [2, 0])] := rfl
@[go_sem] theorem ann36_head : ann36.head = [] := rfl
@[go_sem] def lv37 : List (Nat × List Nat) := [(6, [2, 3]), (5, [4]), (4, [4]), (3, [4, 1]), (2, [2, 3]), (1, [1, 7]), (0, [1])]
def ann37 : Ann := ⟨[1], [], lv37, []⟩
@[go_sem] theorem ann37_imm : ann37.imm = [1] := rfl
@[go_sem] theorem ann37_frz : ann37.frz = [] := rfl
@[go_sem] theorem ann37_live : ann37.live = lv37 := rfl
@[go_sem] theorem ann37_head : ann37.head = [] := rfl
@[go_sem] def lv38 : List (Nat × List Nat) := [(9, [6, 7]), (8, [6, 7]), (7, [6, 5, 4, 3, 27]), (6, [6, 5, 4, 3, 8]), (5, [6, 5, 4, 3, 8]), (4, [6, 7]), (3, [6, 5, 4, 3, 22]), (2, [6, 7]), (1, [6, 5, 4, 3, 11]), (0, [6, 5, 4, 3])]
def ann38 : Ann := ⟨[3, 4, 5], [], lv38, []⟩
@[go_sem] theorem ann38_imm : ann38.imm = [3, 4, 5] := rfl
@[go_sem] theorem ann38_frz : ann38.frz = [] := rfl
@[go_sem] theorem ann38_live : ann38.live = lv38 := rfl
@[go_sem] theorem ann38_head : ann38.head = [] := rfl
@[go_sem] def lv39 : List (Nat × List Nat) := [(5, [4, 5]), (4, [4, 5]), (3, [4, 3, 2, 17]), (2, [4, 5]), (1, [4, 3, 2, 13]), (0, [4, 3, 2])]
def ann39 : Ann := ⟨[2, 3], [], lv39, []⟩
@[go_sem] theorem ann39_imm : ann39.imm = [2, 3] := rfl
@[go_sem] theorem ann39_frz : ann39.frz = [] := rfl
@[go_sem] theorem ann39_live : ann39.live = lv39 := rfl
@[go_sem] theorem ann39_head : ann39.head = [] := rfl
@[go_sem] def lv40 : List (Nat × List Nat) := [(9, [4]), (8, [13, 1, 0, 12]), (7, [4]), (6, [1, 0, 12, 13, 24]), (5, [1, 0, 12, 13, 5]), (4, [1, 0, 12, 13, 14]), (3, [13, 1, 0, 12]), (2, [4]), (1, [1, 0, 10]), (0, [1, 0])]
def ann40 : Ann := ⟨[], [], lv40, [(4, [13, 1, 0, 12])]⟩
@[go_sem] theorem ann40_imm : ann40.imm = [] := rfl
@[go_sem] theorem ann40_frz : ann40.frz = [] := rfl
@[go_sem] theorem ann40_live : ann40.live = lv40 := rfl
@[go_sem] theorem ann40_head : ann40.head = [(4, [13, 1, 0, 12])] := rfl
def ann41 : Ann := ⟨[], [], [(1, [4]), (0, [1, 0])], []⟩
@[go_sem] theorem ann41_imm : ann41.imm = [] := rfl
@[go_sem] theorem ann41_frz : ann41.frz = [] := rfl
@[go_sem] theorem ann41_live : ann41.live = [(1, [4]), (0, [1, 0])] := rfl
@[go_sem] theorem ann41_head : ann41.head = [] := rfl
def ann42 : Ann := ⟨[1], [], [(2, [2]), (1, [3]), (0, [1])], []⟩
@[go_sem] theorem ann42_imm : ann42.imm = [1] := rfl
@[go_sem] theorem ann42_frz : ann42.frz = [] := rfl
@[go_sem] theorem ann42_live : ann42.live = [(2, [2]), (1, [3]), (0, [1])] := rfl
@[go_sem] theorem ann42_head : ann42.head = [] := rfl
@[go_sem] def lv43 : List (Nat × List Nat) := [(11, [6]), (10, [1, 43, 2, 7, 41, 42]), (9, [1, 2, 7, 41, 42, 43]), (8, [6]), (7, [1, 2, 41, 42, 43, 7, 9, 49]), (6, [1, 2, 41, 42, 43, 7, 9]), (5, [1, 2, 41, 42, 43, 7, 44]), (4, [1, 43, 2, 7, 41, 42]), (3, [1, 2, 7, 3]), (2, [6]), (1, [1, 2, 3, 29]), (0, [1, 2, 3])]
def ann43 : Ann := ⟨[3], [], lv43, [(5, [1, 43, 2, 7, 41, 42])]⟩
@[go_sem] theorem ann43_imm : ann43.imm = [3] := rfl
@[go_sem] theorem ann43_frz : ann43.frz = [] := rfl
@[go_sem] theorem ann43_live : ann43.live = lv43 := rfl
@[go_sem] theorem ann43_head : ann43.head = [(5, [1, 43, 2, 7, 41, 42])] := rfl
@[go_sem] def lv44 : List (Nat × List Nat) := [(7, [4]), (6, [8, 0, 1, 7]), (5, [4]), (4, [5, 0, 1, 7, 8, 16]), (3, [5, 0, 1, 7, 8]), (2, [0, 1, 7, 8, 9]), (1, [8, 0, 1, 7]), (0, [0, 1])]
def ann44 : Ann := ⟨[], [], lv44, [(2, [8, 0, 1, 7])]⟩
@[go_sem] theorem ann44_imm : ann44.imm = [] := rfl
@[go_sem] theorem ann44_frz : ann44.frz = [] := rfl
@[go_sem] theorem ann44_live : ann44.live = lv44 := rfl
@[go_sem] theorem ann44_head : ann44.head = [(2, [8, 0, 1, 7])] := rfl
@[go_sem] def lv45 : List (Nat × List Nat) := [(7, [4]), (6, [8, 0, 1, 7]), (5, [4]), (4, [5, 0, 1, 7, 8, 16]), (3, [5, 0, 1, 7, 8]), (2, [0, 1, 7, 8, 9]), (1, [8, 0, 1, 7]), (0, [0, 1])]
def ann45 : Ann := ⟨[], [], lv45, [(2, [8, 0, 1, 7])]⟩
@[go_sem] theorem ann45_imm : ann45.imm = [] := rfl
@[go_sem] theorem ann45_frz : ann45.frz = [] := rfl
@[go_sem] theorem ann45_live : ann45.live = lv45 := rfl
@[go_sem] theorem ann45_head : ann45.head = [(2, [8, 0, 1, 7])] := rfl
def ann46 : Ann := ⟨[1], [], [(1, [2]), (0, [1])], []⟩
@[go_sem] theorem ann46_imm : ann46.imm = [1] := rfl
@[go_sem] theorem ann46_frz : ann46.frz = [] := rfl
@[go_sem] theorem ann46_live : ann46.live = [(1, [2]), (0, [1])] := rfl
@[go_sem] theorem ann46_head : ann46.head = [] := rfl
@[go_sem] def lv47 : List (Nat × List Nat) := [(9, [27, 2, 1, 25, 26]), (8, [2, 1, 25, 26, 27]), (7, [2, 1, 25, 26, 27, 7]), (6, [2, 1, 25, 26, 27, 28]), (5, [27, 2, 1, 25, 26]), (4, [2, 1, 3]), (3, [2, 3, 1, 21]), (2, [2, 3, 1]), (1, [2, 3, 1, 15]), (0, [2, 3, 1])]
def ann47 : Ann := ⟨[3], [], lv47, [(6, [27, 2, 1, 25, 26])]⟩
@[go_sem] theorem ann47_imm : ann47.imm = [3] := rfl
@[go_sem] theorem ann47_frz : ann47.frz = [] := rfl
@[go_sem] theorem ann47_live : ann47.live = lv47 := rfl
@[go_sem] theorem ann47_head : ann47.head = [(6, [27, 2, 1, 25, 26])] := rfl
@[go_sem] def lv48 : List (Nat × List Nat) := [(4, []), (6, []), (5, [3, 32]), (3, [2, 4, 3, 6, 14]), (2, [2, 4, 3, 6]), (1, [2, 4, 3, 9]), (0, [2, 4, 3])]
def ann48 : Ann := ⟨[4], [], lv48, []⟩
@[go_sem] theorem ann48_imm : ann48.imm = [4] := rfl
@[go_sem] theorem ann48_frz : ann48.frz = [] := rfl
@[go_sem] theorem ann48_live : ann48.live = lv48 := rfl
@[go_sem] theorem ann48_head : ann48.head = [] := rfl
def ann49 : Ann := ⟨[2], [], [(1, [3]), (0, [1, 2])], []⟩
@[go_sem] theorem ann49_imm : ann49.imm = [2] := rfl
@[go_sem] theorem ann49_frz : ann49.frz = [] := rfl
@[go_sem] theorem ann49_live : ann49.live = [(1, [3]), (0, [1, 2])] := rfl
@[go_sem] theorem ann49_head : ann49.head = [] := rfl
@[go_sem] def lv50 : List (Nat × List Nat) := [(7, [2]), (6, [9, 3, 7, 2, 8]), (5, [3, 7, 2, 8, 9]), (4, [3, 7, 2, 8, 9, 5]), (3, [3, 7, 2, 8, 9, 10]), (2, [9, 3, 7, 2, 8]), (1, [3, 2, 1]), (0, [2, 1])]
def ann50 : Ann := ⟨[1], [], lv50, [(3, [9, 3, 7, 2, 8])]⟩
@[go_sem] theorem ann50_imm : ann50.imm = [1] := rfl
@[go_sem] theorem ann50_frz : ann50.frz = [] := rfl
@[go_sem] theorem ann50_live : ann50.live = lv50 := rfl
@[go_sem] theorem ann50_head : ann50.head = [(3, [9, 3, 7, 2, 8])] := rfl
def ann51 : Ann := ⟨[2, 3], [], [(1, [4]), (0, [3, 2])], []⟩
@[go_sem] theorem ann51_imm : ann51.imm = [2, 3] := rfl
@[go_sem] theorem ann51_frz : ann51.frz = [] := rfl
@[go_sem] theorem ann51_live : ann51.live = [(1, [4]), (0, [3, 2])] := rfl
@[go_sem] theorem ann51_head : ann51.head = [] := rfl
def ann52 : Ann := ⟨[], [], [(1, []), (0, [1, 4, 0])], []⟩
@[go_sem] theorem ann52_imm : ann52.imm = [] := rfl
@[go_sem] theorem ann52_frz : ann52.frz = [] := rfl
@[go_sem] theorem ann52_live : ann52.live = [(1, []), (0, [1, 4, 0])] := rfl
@[go_sem] theorem ann52_head : ann52.head = [] := rfl
@[go_sem] def lv55 : List (Nat × List Nat) := [(8, [2]), (7, [2]), (6, [17]), (5, [0, 3]), (4, [2]), (3, [0, 8]), (2, [2]), (1, [0, 5]), (0, [0])]
def ann55 : Ann := ⟨[], [], lv55, []⟩
@[go_sem] theorem ann55_imm : ann55.imm = [] := rfl
@[go_sem] theorem ann55_frz : ann55.frz = [] := rfl
@[go_sem] theorem ann55_live : ann55.live = lv55 := rfl
@[go_sem] theorem ann55_head : ann55.head = [] := rfl
@[go_sem] def lv57 : List (Nat × List Nat) := [(6, [5]), (5, [5]), (4, [5, 6, 2, 1, 3, 21]), (3, [5, 6, 2, 1, 3]), (2, [5]), (1, [5, 1, 3, 2, 9]), (0, [5, 1, 3, 2])]
def ann57 : Ann := ⟨[3], [], lv57, []⟩
@[go_sem] theorem ann57_imm : ann57.imm = [3] := rfl
@[go_sem] theorem ann57_frz : ann57.frz = [] := rfl
@[go_sem] theorem ann57_live : ann57.live = lv57 := rfl
@[go_sem] theorem ann57_head : ann57.head = [] := rfl
def ann58 : Ann := ⟨[2, 3], [], [(1, [4]), (0, [3, 2])], []⟩
@[go_sem] theorem ann58_imm : ann58.imm = [2, 3] := rfl
@[go_sem] theorem ann58_frz : ann58.frz = [] := rfl
@[go_sem] theorem ann58_live : ann58.live = [(1, [4]), (0, [3, 2])] := rfl
@[go_sem] theorem ann58_head : ann58.head = [] := rfl
@[go_sem] def lv59 : List (Nat × List Nat) := [(7, [4]), (6, [8, 0, 1, 7]), (5, [4]), (4, [5, 0, 1, 7, 8, 16]), (3, [5, 0, 1, 7, 8]), (2, [0, 1, 7, 8, 9]), (1, [8, 0, 1, 7]), (0, [0, 1])]
def ann59 : Ann := ⟨[], [], lv59, [(2, [8, 0, 1, 7])]⟩
@[go_sem] theorem ann59_imm : ann59.imm = [] := rfl
@[go_sem] theorem ann59_frz : ann59.frz = [] := rfl
@[go_sem] theorem ann59_live : ann59.live = lv59 := rfl
@[go_sem] theorem ann59_head : ann59.head = [(2, [8, 0, 1, 7])] := rfl
def ann60 : Ann := ⟨[], [], [(1, [2]), (0, [2, 0])], []⟩
@[go_sem] theorem ann60_imm : ann60.imm = [] := rfl
@[go_sem] theorem ann60_frz : ann60.frz = [] := rfl
@[go_sem] theorem ann60_live : ann60.live = [(1, [2]), (0, [2, 0])] := rfl
@[go_sem] theorem ann60_head : ann60.head = [] := rfl
def ann61 : Ann := ⟨[1], [], [(1, [2]), (0, [2, 1])], []⟩
@[go_sem] theorem ann61_imm : ann61.imm = [1] := rfl
@[go_sem] theorem ann61_frz : ann61.frz = [] := rfl
@[go_sem] theorem ann61_live : ann61.live = [(1, [2]), (0, [2, 1])] := rfl
@[go_sem] theorem ann61_head : ann61.head = [] := rfl
def ann62 : Ann := ⟨[1], [], [(1, [2]), (0, [1])], []⟩
@[go_sem] theorem ann62_imm : ann62.imm = [1] := rfl
@[go_sem] theorem ann62_frz : ann62.frz = [] := rfl
@[go_sem] theorem ann62_live : ann62.live = [(1, [2]), (0, [1])] := rfl
@[go_sem] theorem ann62_head : ann62.head = [] := rfl
def ann63 : Ann := ⟨[1], [], [(2, [2]), (1, [4]), (0, [1])], []⟩
@[go_sem] theorem ann63_imm : ann63.imm = [1] := rfl
@[go_sem] theorem ann63_frz : ann63.frz = [] := rfl
@[go_sem] theorem ann63_live : ann63.live = [(2, [2]), (1, [4]), (0, [1])] := rfl
@[go_sem] theorem ann63_head : ann63.head = [] := rfl
@[go_sem] def lv64 : List (Nat × List Nat) := [(7, [5]), (6, [5, 7]), (3, [5]), (5, [5]), (4, [5, 2, 3, 6, 22]), (2, [5, 3, 2, 6, 12]), (1, [5, 3, 2, 6]), (0, [5, 3, 2, 1])]
def ann64 : Ann := ⟨[3], [], lv64, []⟩
@[go_sem] theorem ann64_imm : ann64.imm = [3] := rfl
@[go_sem] theorem ann64_frz : ann64.frz = [] := rfl
@[go_sem] theorem ann64_live : ann64.live = lv64 := rfl
@[go_sem] theorem ann64_head : ann64.head = [] := rfl
def ann65 : Ann := ⟨[1], [], [(1, [2]), (0, [1])], []⟩
@[go_sem] theorem ann65_imm : ann65.imm = [1] := rfl
@[go_sem] theorem ann65_frz : ann65.frz = [] := rfl
@[go_sem] theorem ann65_live : ann65.live = [(1, [2]), (0, [1])] := rfl
@[go_sem] theorem ann65_head : ann65.head = [] := rfl
@[go_sem] def lv66 : List (Nat × List Nat) := [(8, [2]), (5, [3, 1]), (7, [2]), (6, [1, 3, 20]), (4, [1, 3, 11]), (3, [3, 1]), (2, [2]), (1, [1, 6]), (0, [1])]
def ann66 : Ann := ⟨[1], [], lv66, [(4, [3, 1])]⟩
@[go_sem] theorem ann66_imm : ann66.imm = [1] := rfl
@[go_sem] theorem ann66_frz : ann66.frz = [] := rfl
@[go_sem] theorem ann66_live : ann66.live = lv66 := rfl
@[go_sem] theorem ann66_head : ann66.head = [(4, [3, 1])] := rfl
@[go_sem] def lv67 : List (Nat × List Nat) := [(6, [2, 3]), (3, [4, 0]), (5, [2, 3]), (4, [0, 4, 22]), (2, [0, 4, 8]), (1, [4, 0]), (0, [0])]
def ann67 : Ann := ⟨[], [], lv67, [(2, [4, 0])]⟩
@[go_sem] theorem ann67_imm : ann67.imm = [] := rfl
@[go_sem] theorem ann67_frz : ann67.frz = [] := rfl
@[go_sem] theorem ann67_live : ann67.live = lv67 := rfl
@[go_sem] theorem ann67_head : ann67.head = [(2, [4, 0])] := rfl
@[go_sem] def lv68 : List (Nat × List Nat) := [(19, [4]), (17, [8, 3, 0]), (18, [3, 0, 8]), (16, [3, 8, 0, 79]), (15, [8, 3, 0]), (14, [4]), (13, [5]), (12, [3, 5, 65]), (6, [7, 0, 3, 5, 6]), (11, [0, 3, 5, 6, 7]), (10, [0, 3, 6, 7, 5, 56]), (9, [0, 3, 6, 7, 5]), (8, [0, 3, 7, 5]), (7, [0, 3, 7, 5, 6, 29]), (5, [0, 3, 7, 5, 6, 15]), (4, [7, 0, 3, 5, 6]), (3, [0, 3, 5, 6]), (2, [0, 3, 5]), (1, [0, 3, 11]), (0, [0, 3])]
def ann68 : Ann := ⟨[3], [], lv68, [(16, [8, 3, 0]), (5, [7, 0, 3, 5, 6])]⟩
@[go_sem] theorem ann68_imm : ann68.imm = [3] := rfl
@[go_sem] theorem ann68_frz : ann68.frz = [] := rfl
@[go_sem] theorem ann68_live : ann68.live = lv68 := rfl
@[go_sem] theorem ann68_head : ann68.head = [(16, [8, 3, 0]), (5, [7, 0, 3, 5, 6])] := rfl
@[go_sem] def lv69 : List (Nat × List Nat) := [(8, [4]), (5, [5, 3, 2]), (7, [4]), (6, [3, 2, 5, 31]), (4, [3, 2, 5, 17]), (3, [5, 3, 2]), (2, [4]), (1, [3, 2, 12]), (0, [3, 2])]
def ann69 : Ann := ⟨[2, 3], [], lv69, [(4, [5, 3, 2])]⟩
@[go_sem] theorem ann69_imm : ann69.imm = [2, 3] := rfl
@[go_sem] theorem ann69_frz : ann69.frz = [] := rfl
@[go_sem] theorem ann69_live : ann69.live = lv69 := rfl
@[go_sem] theorem ann69_head : ann69.head = [(4, [5, 3, 2])] := rfl
@[go_sem] def lv70 : List (Nat × List Nat) := [(12, [2, 3]), (11, [2, 3]), (10, [4, 40]), (6, [5, 0, 4]), (9, [0, 4, 5]), (8, [2, 3]), (7, [0, 5, 4, 29]), (5, [0, 5, 4, 22]), (4, [5, 0, 4]), (3, [0, 4]), (2, [2, 3]), (1, [0, 18]), (0, [0])]
def ann70 : Ann := ⟨[], [], lv70, [(5, [5, 0, 4])]⟩
@[go_sem] theorem ann70_imm : ann70.imm = [] := rfl
@[go_sem] theorem ann70_frz : ann70.frz = [] := rfl
@[go_sem] theorem ann70_live : ann70.live = lv70 := rfl
@[go_sem] theorem ann70_head : ann70.head = [(5, [5, 0, 4])] := rfl
def ann71 : Ann := ⟨[], [], [(1, [2]), (0, [0])], []⟩
@[go_sem] theorem ann71_imm : ann71.imm = [] := rfl
@[go_sem] theorem ann71_frz : ann71.frz = [] := rfl
@[go_sem] theorem ann71_live : ann71.live = [(1, [2]), (0, [0])] := rfl
@[go_sem] theorem ann71_head : ann71.head = [] := rfl
@[go_sem] def lv75 : List (Nat × List Nat) := [(15, [6]), (13, [9, 2, 3, 1, 8, 6]), (14, [2, 3, 1, 8, 6, 9]), (12, [2, 3, 1, 6, 9, 8, 46]), (11, [9, 2, 3, 1, 8, 6]), (10, [2, 3, 1, 8, 6]), (9, [6]), (8, [6]), (7, [6, 1, 3, 34]), (6, [6, 1, 3, 2, 30]), (5, [6]), (4, [6]), (3, [6, 7, 1, 2, 3, 18]), (2, [6, 7, 1, 2, 3]), (1, [6, 1, 2, 3, 12]), (0, [6, 1, 2, 3])]
def ann75 : Ann := ⟨[3], [], lv75, [(12, [9, 2, 3, 1, 8, 6])]⟩
@[go_sem] theorem ann75_imm : ann75.imm = [3] := rfl
@[go_sem] theorem ann75_frz : ann75.frz = [] := rfl
@[go_sem] theorem ann75_live : ann75.live = lv75 := rfl
@[go_sem] theorem ann75_head : ann75.head = [(12, [9, 2, 3, 1, 8, 6])] := rfl
@[go_sem] def lv76 : List (Nat × List Nat) := [(8, [4]), (5, [5, 1, 0]), (7, [4]), (6, [1, 0, 5, 25]), (4, [1, 0, 5, 14]), (3, [5, 1, 0]), (2, [4]), (1, [1, 0, 10]), (0, [1, 0])]
def ann76 : Ann := ⟨[], [], lv76, [(4, [5, 1, 0])]⟩
@[go_sem] theorem ann76_imm : ann76.imm = [] := rfl
@[go_sem] theorem ann76_frz : ann76.frz = [] := rfl
@[go_sem] theorem ann76_live : ann76.live = lv76 := rfl
@[go_sem] theorem ann76_head : ann76.head = [(4, [5, 1, 0])] := rfl
def ann77 : Ann := ⟨[2], [], [(1, [4]), (0, [4, 1, 2])], []⟩
@[go_sem] theorem ann77_imm : ann77.imm = [2] := rfl
@[go_sem] theorem ann77_frz : ann77.frz = [] := rfl
@[go_sem] theorem ann77_live : ann77.live = [(1, [4]), (0, [4, 1, 2])] := rfl
@[go_sem] theorem ann77_head : ann77.head = [] := rfl
def ann78 : Ann := ⟨[1], [], [(1, [2]), (0, [1])], []⟩
@[go_sem] theorem ann78_imm : ann78.imm = [1] := rfl
@[go_sem] theorem ann78_frz : ann78.frz = [] := rfl
@[go_sem] theorem ann78_live : ann78.live = [(1, [2]), (0, [1])] := rfl
@[go_sem] theorem ann78_head : ann78.head = [] := rfl
def ann79 : Ann := ⟨[], [], [(1, [2]), (0, [0])], []⟩
@[go_sem] theorem ann79_imm : ann79.imm = [] := rfl
@[go_sem] theorem ann79_frz : ann79.frz = [] := rfl
@[go_sem] theorem ann79_live : ann79.live = [(1, [2]), (0, [0])] := rfl
@[go_sem] theorem ann79_head : ann79.head = [] := rfl
@[go_sem] def lv80 : List (Nat × List Nat) := [(7, [2]), (6, [9, 3, 7, 8]), (5, [3, 7, 8, 9]), (4, [7, 8, 9, 5, 3]), (3, [7, 8, 9, 3, 10]), (2, [9, 3, 7, 8]), (1, [3, 1]), (0, [1])]
def ann80 : Ann := ⟨[1], [], lv80, [(3, [9, 3, 7, 8])]⟩
@[go_sem] theorem ann80_imm : ann80.imm = [1] := rfl
@[go_sem] theorem ann80_frz : ann80.frz = [] := rfl
@[go_sem] theorem ann80_live : ann80.live = lv80 := rfl
@[go_sem] theorem ann80_head : ann80.head = [(3, [9, 3, 7, 8])] := rfl
@[go_sem] def lv82 : List (Nat × List Nat) := [(2, [3, 2, 0]), (3, [0, 3, 2]), (1, [0, 3, 2, 9]), (0, [3, 2, 0])]
def ann82 : Ann := ⟨[], [], lv82, [(1, [3, 2, 0])]⟩
@[go_sem] theorem ann82_imm : ann82.imm = [] := rfl
@[go_sem] theorem ann82_frz : ann82.frz = [] := rfl
@[go_sem] theorem ann82_live : ann82.live = lv82 := rfl
@[go_sem] theorem ann82_head : ann82.head = [(1, [3, 2, 0])] := rfl
@[go_sem] def lv83 : List (Nat × List Nat) := [(9, [4]), (8, [13, 1, 0, 12]), (7, [4]), (6, [1, 0, 12, 13, 24]), (5, [1, 0, 12, 13, 5]), (4, [1, 0, 12, 13, 14]), (3, [13, 1, 0, 12]), (2, [4]), (1, [1, 0, 10]), (0, [1, 0])]
def ann83 : Ann := ⟨[], [], lv83, [(4, [13, 1, 0, 12])]⟩
@[go_sem] theorem ann83_imm : ann83.imm = [] := rfl
@[go_sem] theorem ann83_frz : ann83.frz = [] := rfl
@[go_sem] theorem ann83_live : ann83.live = lv83 := rfl
@[go_sem] theorem ann83_head : ann83.head = [(4, [13, 1, 0, 12])] := rfl
def ann85 : Ann := ⟨[3], [], [(2, []), (1, [2, 1, 3, 13]), (0, [2, 1, 3])], []⟩
@[go_sem] theorem ann85_imm : ann85.imm = [3] := rfl
@[go_sem] theorem ann85_frz : ann85.frz = [] := rfl
@[go_sem] theorem ann85_live : ann85.live = [(2, []), (1, [2, 1, 3, 13]), (0, [2, 1, 3])] := rfl
@[go_sem] theorem ann85_head : ann85.head = [] := rfl
def ann86 : Ann := ⟨[], [], [(1, []), (0, [2, 0])], []⟩
@[go_sem] theorem ann86_imm : ann86.imm = [] := rfl
@[go_sem] theorem ann86_frz : ann86.frz = [] := rfl
@[go_sem] theorem ann86_live : ann86.live = [(1, []), (0, [2, 0])] := rfl
@[go_sem] theorem ann86_head : ann86.head = [] := rfl
@[go_sem] def lv87 : List (Nat × List Nat) := [(16, [2]), (5, [3, 0]), (15, [2]), (14, [3, 0]), (10, [5, 3, 4, 0]), (13, [3, 4, 0, 5]), (12, [4, 0, 5, 3]), (11, [4, 0, 5, 3, 44]), (9, [4, 0, 5, 3, 32]), (8, [5, 3, 4, 0]), (7, [3, 4, 0]), (6, [3, 0, 25]), (4, [3, 0, 13]), (3, [3, 0]), (2, [2]), (1, [0, 8]), (0, [0])]
def ann87 : Ann := ⟨[], [], lv87, [(9, [5, 3, 4, 0]), (4, [3, 0])]⟩
@[go_sem] theorem ann87_imm : ann87.imm = [] := rfl
@[go_sem] theorem ann87_frz : ann87.frz = [] := rfl
@[go_sem] theorem ann87_live : ann87.live = lv87 := rfl
@[go_sem] theorem ann87_head : ann87.head = [(9, [5, 3, 4, 0]), (4, [3, 0])] := rfl
@[go_sem] def lv88 : List (Nat × List Nat) := [(3, []), (2, [4, 26]), (1, [4, 2, 3, 7, 5]), (0, [4, 2, 3, 5, 1])]
def ann88 : Ann := ⟨[5], [], lv88, []⟩
@[go_sem] theorem ann88_imm : ann88.imm = [5] := rfl
@[go_sem] theorem ann88_frz : ann88.frz = [] := rfl
@[go_sem] theorem ann88_live : ann88.live = lv88 := rfl
@[go_sem] theorem ann88_head : ann88.head = [] := rfl
@[go_sem] def lv90 : List (Nat × List Nat) := [(17, [6]), (16, [72, 8, 2, 0, 70, 6, 71]), (15, [8, 2, 0, 70, 6, 71, 72]), (14, [8, 2, 0, 70, 6, 71, 72, 10]), (13, [8, 2, 0, 70, 6, 71, 72, 73]), (12, [72, 8, 2, 0, 70, 6, 71]), (11, [8, 2, 0, 6, 4]), (10, [8, 0, 6, 4, 2, 66]), (9, [8, 0, 6, 4, 2]), (8, [0, 6, 4, 2]), (7, [6]), (6, [6, 7]), (5, [6, 7, 0]), (4, [6, 0, 2, 4, 27]), (3, [6]), (2, [6]), (1, [6, 0, 2, 4, 15]), (0, [6, 0, 2, 4])]
def ann90 : Ann := ⟨[4], [], lv90, [(13, [72, 8, 2, 0, 70, 6, 71])]⟩
@[go_sem] theorem ann90_imm : ann90.imm = [4] := rfl
@[go_sem] theorem ann90_frz : ann90.frz = [] := rfl
@[go_sem] theorem ann90_live : ann90.live = lv90 := rfl
@[go_sem] theorem ann90_head : ann90.head = [(13, [72, 8, 2, 0, 70, 6, 71])] := rfl
@[go_sem] def lv91 : List (Nat × List Nat) := [(7, [4]), (6, [8, 0, 1, 7]), (5, [4]), (4, [5, 0, 1, 7, 8, 16]), (3, [5, 0, 1, 7, 8]), (2, [0, 1, 7, 8, 9]), (1, [8, 0, 1, 7]), (0, [0, 1])]
def ann91 : Ann := ⟨[], [], lv91, [(2, [8, 0, 1, 7])]⟩
@[go_sem] theorem ann91_imm : ann91.imm = [] := rfl
@[go_sem] theorem ann91_frz : ann91.frz = [] := rfl
@[go_sem] theorem ann91_live : ann91.live = lv91 := rfl
@[go_sem] theorem ann91_head : ann91.head = [(2, [8, 0, 1, 7])] := rfl
def ann92 : Ann := ⟨[], [], [(1, [2]), (0, [0])], []⟩
@[go_sem] theorem ann92_imm : ann92.imm = [] := rfl
@[go_sem] theorem ann92_frz : ann92.frz = [] := rfl
@[go_sem] theorem ann92_live : ann92.live = [(1, [2]), (0, [0])] := rfl
@[go_sem] theorem ann92_head : ann92.head = [] := rfl
@[go_sem] def lv93 : List (Nat × List Nat) := [(7, [2]), (6, [9, 3, 7, 8]), (5, [3, 7, 8, 9]), (4, [7, 8, 9, 5, 3]), (3, [7, 8, 9, 3, 10]), (2, [9, 3, 7, 8]), (1, [3, 1]), (0, [1])]
def ann93 : Ann := ⟨[1], [], lv93, [(3, [9, 3, 7, 8])]⟩
@[go_sem] theorem ann93_imm : ann93.imm = [1] := rfl
@[go_sem] theorem ann93_frz : ann93.frz = [] := rfl
@[go_sem] theorem ann93_live : ann93.live = lv93 := rfl
@[go_sem] theorem ann93_head : ann93.head = [(3, [9, 3, 7, 8])] := rfl
@[go_sem] def lv94 : List (Nat × List Nat) := [(17, [2]), (16, [2]), (15, [1, 95]), (14, [2]), (13, [1, 69]), (12, [1, 3]), (11, [2]), (10, [1, 44]), (9, [2]), (8, [1, 25]), (5, [2]), (4, [1, 14]), (7, [1, 15]), (6, [1, 15, 11]), (3, [1, 11]), (2, [2]), (1, [1, 9]), (0, [1])]
def ann94 : Ann := ⟨[1], [], lv94, []⟩
@[go_sem] theorem ann94_imm : ann94.imm = [1] := rfl
@[go_sem] theorem ann94_frz : ann94.frz = [] := rfl
@[go_sem] theorem ann94_live : ann94.live = lv94 := rfl
@[go_sem] theorem ann94_head : ann94.head = [] := rfl
def ann95 : Ann := ⟨[1], [], [(1, [2]), (0, [1])], []⟩
@[go_sem] theorem ann95_imm : ann95.imm = [1] := rfl
@[go_sem] theorem ann95_frz : ann95.frz = [] := rfl
@[go_sem] theorem ann95_live : ann95.live = [(1, [2]), (0, [1])] := rfl
@[go_sem] theorem ann95_head : ann95.head = [] := rfl
@[go_sem] def lv96 : List (Nat × List Nat) := [(10, [6]), (9, [17, 2, 1, 15, 16]), (8, [6]), (7, [2, 1, 15, 16, 17, 30]), (6, [2, 1, 15, 16, 17, 9, 8]), (5, [2, 1, 15, 16, 17, 8, 7]), (4, [2, 1, 15, 16, 17, 18]), (3, [17, 2, 1, 15, 16]), (2, [6]), (1, [2, 1, 0, 14]), (0, [2, 1, 0])]
def ann96 : Ann := ⟨[], [], lv96, [(4, [17, 2, 1, 15, 16])]⟩
@[go_sem] theorem ann96_imm : ann96.imm = [] := rfl
@[go_sem] theorem ann96_frz : ann96.frz = [] := rfl
@[go_sem] theorem ann96_live : ann96.live = lv96 := rfl
@[go_sem] theorem ann96_head : ann96.head = [(4, [17, 2, 1, 15, 16])] := rfl
@[go_sem] def lv97 : List (Nat × List Nat) := [(27, [4, 2, 1, 0, 11, 10, 3]), (26, [4, 2, 0, 11, 10, 3, 16]), (25, [4, 2, 0, 11, 10, 3, 16, 1]), (30, [4, 2, 1, 0, 11, 10, 3]), (29, [4, 1, 0, 11, 10, 3, 16]), (28, [4, 1, 0, 11, 10, 3, 16, 2]), (24, [4, 2, 0, 11, 3, 16, 1, 20, 18, 19, 125]), (23, [4, 2, 0, 11, 3, 16, 1, 20, 18, 19]), (22, [4, 2, 0, 11, 3, 16, 1, 18, 19, 12]), (21, [4, 2, 0, 11, 3, 16, 1, 12]), (20, [4, 2, 0, 3, 16, 1, 12, 17]), (19, [4, 2, 1, 0, 11, 10, 3]), (18, [4, 2, 0, 11, 10, 3, 15]), (17, [4, 2, 0, 11, 10, 3, 13, 1, 12, 97]), (16, [4, 2, 0, 11, 10, 3, 13, 1, 12, 80]), (15, [4, 2, 0, 11, 10, 3, 13, 1, 12, 75]), (14, [4, 2, 0, 11, 10, 3, 13, 1, 12, 14]), (13, [4, 2, 0, 11, 10, 3, 13, 1, 12]), (12, [4, 2, 0, 11, 10, 3, 1, 12, 13]), (11, [4, 2, 0, 11, 10, 3, 1, 12, 13, 14, 56]), (10, [4, 2, 0, 11, 10, 3, 1, 12, 13, 14]), (9, [4, 2, 0, 11, 10, 3, 1, 12]), (8, [4, 2, 0, 11, 10, 1, 12, 3]), (7, [4, 2, 0, 11, 10, 1, 12, 3, 39]), (6, []), (5, [4, 2, 1, 0, 11, 10, 12, 3, 32]), (4, []), (3, [4, 2, 1, 0, 11, 10, 12, 3, 25]), (2, [4, 2, 1, 0, 11, 10, 12, 3]), (1, [4, 2, 1, 0, 11, 10, 3]), (0, [4, 2, 1, 0, 10, 3])]
def ann97 : Ann := ⟨[], [], lv97, [(1, [4, 2, 1, 0, 11, 10, 3])]⟩
@[go_sem] theorem ann97_imm : ann97.imm = [] := rfl
@[go_sem] theorem ann97_frz : ann97.frz = [] := rfl
@[go_sem] theorem ann97_live : ann97.live = lv97 := rfl
@[go_sem] theorem ann97_head : ann97.head = [(1, [4, 2, 1, 0, 11, 10, 3])] := rfl
def ann98 : Ann := ⟨[], [], [(2, [2]), (1, [2]), (0, [0])], []⟩
@[go_sem] theorem ann98_imm : ann98.imm = [] := rfl
@[go_sem] theorem ann98_frz : ann98.frz = [] := rfl
@[go_sem] theorem ann98_live : ann98.live = [(2, [2]), (1, [2]), (0, [0])] := rfl
@[go_sem] theorem ann98_head : ann98.head = [] := rfl
def ann100 : Ann := ⟨[], [], [(1, [2]), (0, [0])], []⟩
@[go_sem] theorem ann100_imm : ann100.imm = [] := rfl
@[go_sem] theorem ann100_frz : ann100.frz = [] := rfl
@[go_sem] theorem ann100_live : ann100.live = [(1, [2]), (0, [0])] := rfl
@[go_sem] theorem ann100_head : ann100.head = [] := rfl
def ann101 : Ann := ⟨[], [], [(3, [2]), (2, [7, 3, 0, 5]), (1, [3, 0, 5, 4]), (0, [0])], []⟩
@[go_sem] theorem ann101_imm : ann101.imm = [] := rfl
@[go_sem] theorem ann101_frz : ann101.frz = [] := rfl
@[go_sem] theorem ann101_live : ann101.live = [(3, [2]), (2, [7, 3, 0, 5]), (1, [3, 0, 5, 4]), (0, [0])] := rfl
@[go_sem] theorem ann101_head : ann101.head = [] := rfl
@[go_sem] def lv102 : List (Nat × List Nat) := [(3, [6]), (2, [6]), (1, [6, 3, 4, 17]), (0, [6, 3, 4, 2, 1])]
def ann102 : Ann := ⟨[4], [], lv102, []⟩
@[go_sem] theorem ann102_imm : ann102.imm = [4] := rfl
@[go_sem] theorem ann102_frz : ann102.frz = [] := rfl
@[go_sem] theorem ann102_live : ann102.live = lv102 := rfl
@[go_sem] theorem ann102_head : ann102.head = [] := rfl
@[go_sem] def lv103 : List (Nat × List Nat) := [(12, [6, 7]), (11, [34, 8, 2, 1, 32, 33]), (10, [8, 2, 1, 32, 33, 34]), (9, [6, 7]), (8, [2, 1, 32, 33, 34, 11, 8, 49]), (7, [2, 1, 32, 33, 34, 11, 8, 12]), (6, [2, 1, 32, 33, 34, 8, 10]), (5, [2, 1, 32, 33, 34, 8, 35]), (4, [34, 8, 2, 1, 32, 33]), (3, [8, 2, 1, 3]), (2, [6, 7]), (1, [2, 1, 3, 30]), (0, [2, 1, 3])]
def ann103 : Ann := ⟨[3], [], lv103, [(5, [34, 8, 2, 1, 32, 33])]⟩
@[go_sem] theorem ann103_imm : ann103.imm = [3] := rfl
@[go_sem] theorem ann103_frz : ann103.frz = [] := rfl
@[go_sem] theorem ann103_live : ann103.live = lv103 := rfl
@[go_sem] theorem ann103_head : ann103.head = [(5, [34, 8, 2, 1, 32, 33])] := rfl
@[go_sem] def lv104 : List (Nat × List Nat) := [(8, [6]), (6, [8, 2, 7, 1, 3]), (7, [2, 7, 1, 3, 8]), (5, [2, 1, 3, 8, 7, 21]), (4, [8, 2, 7, 1, 3]), (3, [2, 7, 1, 3]), (2, [6]), (1, [1, 2, 3, 10]), (0, [1, 2, 3])]
def ann104 : Ann := ⟨[3], [], lv104, [(5, [8, 2, 7, 1, 3])]⟩
@[go_sem] theorem ann104_imm : ann104.imm = [3] := rfl
@[go_sem] theorem ann104_frz : ann104.frz = [] := rfl
@[go_sem] theorem ann104_live : ann104.live = lv104 := rfl
@[go_sem] theorem ann104_head : ann104.head = [(5, [8, 2, 7, 1, 3])] := rfl
@[go_sem] def lv105 : List (Nat × List Nat) := [(15, [2]), (14, [2]), (13, [1, 94]), (12, [2]), (11, [1, 86]), (8, [2]), (7, [1, 64]), (10, [2]), (9, [1, 67]), (6, [1, 56]), (5, [2]), (4, [1, 48]), (3, [1, 3]), (2, [2]), (1, [1, 11]), (0, [1])]
def ann105 : Ann := ⟨[1], [], lv105, []⟩
@[go_sem] theorem ann105_imm : ann105.imm = [1] := rfl
@[go_sem] theorem ann105_frz : ann105.frz = [] := rfl
@[go_sem] theorem ann105_live : ann105.live = lv105 := rfl
@[go_sem] theorem ann105_head : ann105.head = [] := rfl
def ann106 : Ann := ⟨[], [], [(1, [2]), (0, [0])], []⟩
@[go_sem] theorem ann106_imm : ann106.imm = [] := rfl
@[go_sem] theorem ann106_frz : ann106.frz = [] := rfl
@[go_sem] theorem ann106_live : ann106.live = [(1, [2]), (0, [0])] := rfl
@[go_sem] theorem ann106_head : ann106.head = [] := rfl
def ann107 : Ann := ⟨[], [], [(1, [2]), (0, [0])], []⟩
@[go_sem] theorem ann107_imm : ann107.imm = [] := rfl
@[go_sem] theorem ann107_frz : ann107.frz = [] := rfl
@[go_sem] theorem ann107_live : ann107.live = [(1, [2]), (0, [0])] := rfl
@[go_sem] theorem ann107_head : ann107.head = [] := rfl
def ann108 : Ann := ⟨[], [], [(1, [2]), (0, [0])], []⟩
@[go_sem] theorem ann108_imm : ann108.imm = [] := rfl
@[go_sem] theorem ann108_frz : ann108.frz = [] := rfl
@[go_sem] theorem ann108_live : ann108.live = [(1, [2]), (0, [0])] := rfl
@[go_sem] theorem ann108_head : ann108.head = [] := rfl
@[go_sem] def lv111 : List (Nat × List Nat) := [(6, [4]), (3, [5, 1, 0]), (5, [4]), (4, [5, 1, 0, 17]), (2, [5, 1, 0, 9]), (1, [5, 1, 0]), (0, [1, 0])]
def ann111 : Ann := ⟨[], [], lv111, [(2, [5, 1, 0])]⟩
@[go_sem] theorem ann111_imm : ann111.imm = [] := rfl
@[go_sem] theorem ann111_frz : ann111.frz = [] := rfl
@[go_sem] theorem ann111_live : ann111.live = lv111 := rfl
@[go_sem] theorem ann111_head : ann111.head = [(2, [5, 1, 0])] := rfl
def ann112 : Ann := ⟨[2], [], [(3, [4]), (2, [4]), (1, [1, 7]), (0, [1, 2])], []⟩
@[go_sem] theorem ann112_imm : ann112.imm = [2] := rfl
@[go_sem] theorem ann112_frz : ann112.frz = [] := rfl
@[go_sem] theorem ann112_live : ann112.live = [(3, [4]), (2, [4]), (1, [1, 7]), (0, [1, 2])] := rfl
@[go_sem] theorem ann112_head : ann112.head = [] := rfl
def ann113 : Ann := ⟨[2], [], [(1, [4]), (0, [4, 1, 2])], []⟩
@[go_sem] theorem ann113_imm : ann113.imm = [2] := rfl
@[go_sem] theorem ann113_frz : ann113.frz = [] := rfl
@[go_sem] theorem ann113_live : ann113.live = [(1, [4]), (0, [4, 1, 2])] := rfl
@[go_sem] theorem ann113_head : ann113.head = [] := rfl
@[go_sem] def lv114 : List (Nat × List Nat) := [(12, [6]), (10, [8, 2, 3, 1, 7, 6]), (11, [2, 3, 1, 7, 6, 8]), (9, [2, 3, 1, 6, 8, 7, 43]), (8, [8, 2, 3, 1, 7, 6]), (7, [2, 3, 1, 7, 6]), (6, [6]), (5, [6]), (4, [6, 2, 3, 1, 23]), (3, [6]), (2, [6, 3, 2, 1, 15]), (1, [6, 3, 2, 1, 11]), (0, [6, 3, 2, 1])]
def ann114 : Ann := ⟨[3], [], lv114, [(9, [8, 2, 3, 1, 7, 6])]⟩
@[go_sem] theorem ann114_imm : ann114.imm = [3] := rfl
@[go_sem] theorem ann114_frz : ann114.frz = [] := rfl
@[go_sem] theorem ann114_live : ann114.live = lv114 := rfl
@[go_sem] theorem ann114_head : ann114.head = [(9, [8, 2, 3, 1, 7, 6])] := rfl
def ann115 : Ann := ⟨[1], [], [(1, [2]), (0, [1])], []⟩
@[go_sem] theorem ann115_imm : ann115.imm = [1] := rfl
@[go_sem] theorem ann115_frz : ann115.frz = [] := rfl
@[go_sem] theorem ann115_live : ann115.live = [(1, [2]), (0, [1])] := rfl
@[go_sem] theorem ann115_head : ann115.head = [] := rfl
def ann116 : Ann := ⟨[2], [], [(1, [4]), (0, [4, 2])], []⟩
@[go_sem] theorem ann116_imm : ann116.imm = [2] := rfl
@[go_sem] theorem ann116_frz : ann116.frz = [] := rfl
@[go_sem] theorem ann116_live : ann116.live = [(1, [4]), (0, [4, 2])] := rfl
@[go_sem] theorem ann116_head : ann116.head = [] := rfl
@[go_sem] def lv117 : List (Nat × List Nat) := [(27, [2, 1, 0, 9, 8, 3]), (26, [2, 0, 9, 8, 3, 14]), (25, [2, 0, 9, 8, 3, 14, 1]), (30, [2, 1, 0, 9, 8, 3]), (29, [1, 0, 9, 8, 3, 14]), (28, [1, 0, 9, 8, 3, 14, 2]), (24, [2, 0, 9, 3, 14, 1, 18, 16, 17, 113]), (23, [2, 0, 9, 3, 14, 1, 18, 16, 17]), (22, [2, 0, 9, 3, 14, 1, 16, 17, 10]), (21, [2, 0, 9, 3, 14, 1, 10]), (20, [2, 0, 3, 14, 1, 10, 15]), (19, [2, 1, 0, 9, 8, 3]), (18, [2, 0, 9, 8, 3, 13]), (17, [2, 0, 9, 8, 3, 11, 1, 10, 87]), (16, [2, 0, 9, 8, 3, 11, 1, 10, 72]), (15, [2, 0, 9, 8, 3, 11, 1, 10, 68]), (14, [2, 0, 9, 8, 3, 11, 1, 10, 12]), (13, [2, 0, 9, 8, 3, 11, 1, 10]), (12, [2, 0, 9, 8, 3, 1, 10, 11]), (11, [2, 0, 9, 8, 3, 1, 10, 11, 12, 50]), (10, [2, 0, 9, 8, 3, 1, 10, 11, 12]), (9, [2, 0, 9, 8, 3, 1, 10]), (8, [2, 0, 9, 8, 1, 10, 3]), (7, [2, 0, 9, 8, 1, 10, 3, 35]), (6, []), (5, [2, 1, 0, 9, 8, 10, 3, 29]), (4, []), (3, [2, 1, 0, 9, 8, 10, 3, 23]), (2, [2, 1, 0, 9, 8, 10, 3]), (1, [2, 1, 0, 9, 8, 3]), (0, [2, 1, 0, 8, 3])]
def ann117 : Ann := ⟨[], [], lv117, [(1, [2, 1, 0, 9, 8, 3])]⟩
@[go_sem] theorem ann117_imm : ann117.imm = [] := rfl
@[go_sem] theorem ann117_frz : ann117.frz = [] := rfl
@[go_sem] theorem ann117_live : ann117.live = lv117 := rfl
@[go_sem] theorem ann117_head : ann117.head = [(1, [2, 1, 0, 9, 8, 3])] := rfl
@[go_sem] def lv119 : List (Nat × List Nat) := [(9, [2]), (2, [2]), (4, [2]), (6, [2]), (8, [2]), (7, [21]), (5, [1, 18]), (3, [1, 12]), (1, [1, 3]), (0, [1])]
def ann119 : Ann := ⟨[1], [], lv119, []⟩
@[go_sem] theorem ann119_imm : ann119.imm = [1] := rfl
@[go_sem] theorem ann119_frz : ann119.frz = [] := rfl
@[go_sem] theorem ann119_live : ann119.live = lv119 := rfl
@[go_sem] theorem ann119_head : ann119.head = [] := rfl
def ann120 : Ann := ⟨[1], [], [(1, [2]), (0, [1])], []⟩
@[go_sem] theorem ann120_imm : ann120.imm = [1] := rfl
@[go_sem] theorem ann120_frz : ann120.frz = [] := rfl
@[go_sem] theorem ann120_live : ann120.live = [(1, [2]), (0, [1])] := rfl
@[go_sem] theorem ann120_head : ann120.head = [] := rfl
@[go_sem] def lv121 : List (Nat × List Nat) := [(6, [2]), (3, [3, 0]), (5, [2]), (4, [0, 3, 19]), (2, [0, 3, 7]), (1, [3, 0]), (0, [0])]
def ann121 : Ann := ⟨[], [], lv121, [(2, [3, 0])]⟩
@[go_sem] theorem ann121_imm : ann121.imm = [] := rfl
@[go_sem] theorem ann121_frz : ann121.frz = [] := rfl
@[go_sem] theorem ann121_live : ann121.live = lv121 := rfl
@[go_sem] theorem ann121_head : ann121.head = [(2, [3, 0])] := rfl
def ann122 : Ann := ⟨[], [], [(1, [2]), (0, [0])], []⟩
@[go_sem] theorem ann122_imm : ann122.imm = [] := rfl
@[go_sem] theorem ann122_frz : ann122.frz = [] := rfl
@[go_sem] theorem ann122_live : ann122.live = [(1, [2]), (0, [0])] := rfl
@[go_sem] theorem ann122_head : ann122.head = [] := rfl
@[go_sem] def lv123 : List (Nat × List Nat) := [(9, [2]), (8, [15, 13, 14]), (7, [2]), (6, [13, 14, 15, 21]), (5, [13, 14, 15, 4]), (4, [13, 14, 15, 16]), (3, [15, 13, 14]), (2, [2]), (1, [0, 11]), (0, [0])]
def ann123 : Ann := ⟨[], [], lv123, [(4, [15, 13, 14])]⟩
@[go_sem] theorem ann123_imm : ann123.imm = [] := rfl
@[go_sem] theorem ann123_frz : ann123.frz = [] := rfl
@[go_sem] theorem ann123_live : ann123.live = lv123 := rfl
@[go_sem] theorem ann123_head : ann123.head = [(4, [15, 13, 14])] := rfl
def ann124 : Ann := ⟨[1], [], [(1, [2]), (0, [1])], []⟩
@[go_sem] theorem ann124_imm : ann124.imm = [1] := rfl
@[go_sem] theorem ann124_frz : ann124.frz = [] := rfl
@[go_sem] theorem ann124_live : ann124.live = [(1, [2]), (0, [1])] := rfl
@[go_sem] theorem ann124_head : ann124.head = [] := rfl
@[go_sem] def lv125 : List (Nat × List Nat) := [(2, [0, 8, 3, 1, 2]), (5, [9, 0, 3, 1, 2, 8]), (6, [0, 3, 1, 2, 8, 9]), (4, [0, 3, 1, 2, 8, 9, 34]), (3, [9, 0, 3, 1, 2, 8]), (1, [0, 3, 1, 2, 8, 14]), (0, [0, 8, 3, 1, 2])]
def ann125 : Ann := ⟨[], [], lv125, [(4, [9, 0, 3, 1, 2, 8]), (1, [0, 8, 3, 1, 2])]⟩
@[go_sem] theorem ann125_imm : ann125.imm = [] := rfl
@[go_sem] theorem ann125_frz : ann125.frz = [] := rfl
@[go_sem] theorem ann125_live : ann125.live = lv125 := rfl
@[go_sem] theorem ann125_head : ann125.head = [(4, [9, 0, 3, 1, 2, 8]), (1, [0, 8, 3, 1, 2])] := rfl
def ann135 : Ann := ⟨[], [], [(1, [4, 5, 6]), (0, [1, 0])], []⟩
@[go_sem] theorem ann135_imm : ann135.imm = [] := rfl
@[go_sem] theorem ann135_frz : ann135.frz = [] := rfl
@[go_sem] theorem ann135_live : ann135.live = [(1, [4, 5, 6]), (0, [1, 0])] := rfl
@[go_sem] theorem ann135_head : ann135.head = [] := rfl
@[go_sem] def lv136 : List (Nat × List Nat) := [(12, [2, 3]), (11, [2, 3]), (10, [6, 41]), (9, [6, 7]), (8, [23, 21, 0, 22]), (7, [2, 3]), (6, [21, 0, 22, 23, 29]), (5, [21, 0, 22, 23, 5]), (4, [21, 0, 22, 23, 24]), (3, [23, 21, 0, 22]), (2, [2, 3]), (1, [0, 19]), (0, [0])]
def ann136 : Ann := ⟨[], [], lv136, [(4, [23, 21, 0, 22])]⟩
@[go_sem] theorem ann136_imm : ann136.imm = [] := rfl
@[go_sem] theorem ann136_frz : ann136.frz = [] := rfl
@[go_sem] theorem ann136_live : ann136.live = lv136 := rfl
@[go_sem] theorem ann136_head : ann136.head = [(4, [23, 21, 0, 22])] := rfl
def ann137 : Ann := ⟨[], [], [(1, [2]), (0, [0])], []⟩
@[go_sem] theorem ann137_imm : ann137.imm = [] := rfl
@[go_sem] theorem ann137_frz : ann137.frz = [] := rfl
@[go_sem] theorem ann137_live : ann137.live = [(1, [2]), (0, [0])] := rfl
@[go_sem] theorem ann137_head : ann137.head = [] := rfl
@[go_sem] def lv138 : List (Nat × List Nat) := [(7, [2]), (6, [2]), (5, [16]), (4, [2]), (3, [0, 14]), (2, [2]), (1, [0, 8]), (0, [0])]
def ann138 : Ann := ⟨[], [], lv138, []⟩
@[go_sem] theorem ann138_imm : ann138.imm = [] := rfl
@[go_sem] theorem ann138_frz : ann138.frz = [] := rfl
@[go_sem] theorem ann138_live : ann138.live = lv138 := rfl
@[go_sem] theorem ann138_head : ann138.head = [] := rfl
@[go_sem] def lv139 : List (Nat × List Nat) := [(6, [2]), (3, [3, 0]), (5, [2]), (4, [0, 3, 15]), (2, [0, 3, 7]), (1, [3, 0]), (0, [0])]
def ann139 : Ann := ⟨[], [], lv139, [(2, [3, 0])]⟩
@[go_sem] theorem ann139_imm : ann139.imm = [] := rfl
@[go_sem] theorem ann139_frz : ann139.frz = [] := rfl
@[go_sem] theorem ann139_live : ann139.live = lv139 := rfl
@[go_sem] theorem ann139_head : ann139.head = [(2, [3, 0])] := rfl
def ann140 : Ann := ⟨[], [], [(1, [2]), (0, [0])], []⟩
@[go_sem] theorem ann140_imm : ann140.imm = [] := rfl
@[go_sem] theorem ann140_frz : ann140.frz = [] := rfl
@[go_sem] theorem ann140_live : ann140.live = [(1, [2]), (0, [0])] := rfl
@[go_sem] theorem ann140_head : ann140.head = [] := rfl
def ann141 : Ann := ⟨[1], [], [(1, [2]), (0, [1])], []⟩
@[go_sem] theorem ann141_imm : ann141.imm = [1] := rfl
@[go_sem] theorem ann141_frz : ann141.frz = [] := rfl
@[go_sem] theorem ann141_live : ann141.live = [(1, [2]), (0, [1])] := rfl
@[go_sem] theorem ann141_head : ann141.head = [] := rfl
@[go_sem] def lv142 : List (Nat × List Nat) := [(6, [2]), (3, [3, 0]), (5, [2]), (4, [0, 3, 14]), (2, [0, 3, 7]), (1, [3, 0]), (0, [0])]
def ann142 : Ann := ⟨[], [], lv142, [(2, [3, 0])]⟩
@[go_sem] theorem ann142_imm : ann142.imm = [] := rfl
@[go_sem] theorem ann142_frz : ann142.frz = [] := rfl
@[go_sem] theorem ann142_live : ann142.live = lv142 := rfl
@[go_sem] theorem ann142_head : ann142.head = [(2, [3, 0])] := rfl
@[go_sem] def lv152 : List (Nat × List Nat) := [(11, [6]), (9, [8, 2, 3, 1, 7, 6]), (10, [2, 3, 1, 7, 6, 8]), (8, [2, 3, 1, 6, 8, 7, 28]), (7, [8, 2, 3, 1, 7, 6]), (6, [2, 3, 1, 7, 6]), (5, [6]), (4, [6]), (3, [6, 1, 3, 17]), (2, [6, 1, 3, 2, 13]), (1, [6, 1, 3, 2]), (0, [6, 1, 3, 2])]
def ann152 : Ann := ⟨[3], [], lv152, [(8, [8, 2, 3, 1, 7, 6])]⟩
@[go_sem] theorem ann152_imm : ann152.imm = [3] := rfl
@[go_sem] theorem ann152_frz : ann152.frz = [] := rfl
@[go_sem] theorem ann152_live : ann152.live = lv152 := rfl
@[go_sem] theorem ann152_head : ann152.head = [(8, [8, 2, 3, 1, 7, 6])] := rfl
@[go_sem] def lv153 : List (Nat × List Nat) := [(2, [0, 6, 1, 2]), (5, [7, 0, 1, 2, 6]), (6, [0, 1, 2, 6, 7]), (4, [0, 1, 2, 6, 7, 30]), (3, [7, 0, 1, 2, 6]), (1, [0, 1, 2, 6, 12]), (0, [0, 6, 1, 2])]
def ann153 : Ann := ⟨[], [], lv153, [(4, [7, 0, 1, 2, 6]), (1, [0, 6, 1, 2])]⟩
@[go_sem] theorem ann153_imm : ann153.imm = [] := rfl
@[go_sem] theorem ann153_frz : ann153.frz = [] := rfl
@[go_sem] theorem ann153_live : ann153.live = lv153 := rfl
@[go_sem] theorem ann153_head : ann153.head = [(4, [7, 0, 1, 2, 6]), (1, [0, 6, 1, 2])] := rfl
@[go_sem] def lv162 : List (Nat × List Nat) := [(11, [2]), (2, [2]), (4, [2]), (6, [2]), (8, [2]), (10, [2]), (9, [27]), (7, [0, 24]), (5, [0, 17]), (3, [0, 10]), (1, [0, 3]), (0, [0])]
def ann162 : Ann := ⟨[], [], lv162, []⟩
@[go_sem] theorem ann162_imm : ann162.imm = [] := rfl
@[go_sem] theorem ann162_frz : ann162.frz = [] := rfl
@[go_sem] theorem ann162_live : ann162.live = lv162 := rfl
@[go_sem] theorem ann162_head : ann162.head = [] := rfl
@[go_sem] def lv168 : List (Nat × List Nat) := [(4, [4, 5, 6]), (3, [4, 5, 6]), (2, [1, 7, 0, 12]), (1, [1, 7, 0]), (0, [1, 0])]
def ann168 : Ann := ⟨[], [], lv168, []⟩
@[go_sem] theorem ann168_imm : ann168.imm = [] := rfl
@[go_sem] theorem ann168_frz : ann168.frz = [] := rfl
@[go_sem] theorem ann168_live : ann168.live = lv168 := rfl
@[go_sem] theorem ann168_head : ann168.head = [] := rfl
@[go_sem] def lv170 : List (Nat × List Nat) := [(10, [4]), (9, [25, 23, 24]), (8, [4]), (7, [23, 24, 25, 36]), (6, [23, 24, 25, 7]), (5, [23, 24, 25, 6]), (4, [23, 24, 25, 26]), (3, [25, 23, 24]), (2, [4]), (1, [0, 21]), (0, [0, 1])]
def ann170 : Ann := ⟨[], [], lv170, [(4, [25, 23, 24])]⟩
@[go_sem] theorem ann170_imm : ann170.imm = [] := rfl
@[go_sem] theorem ann170_frz : ann170.frz = [] := rfl
@[go_sem] theorem ann170_live : ann170.live = lv170 := rfl
@[go_sem] theorem ann170_head : ann170.head = [(4, [25, 23, 24])] := rfl
@[go_sem] def lv171 : List (Nat × List Nat) := [(6, [2]), (3, [3, 0]), (5, [2]), (4, [0, 3, 20]), (2, [0, 3, 7]), (1, [3, 0]), (0, [0])]
def ann171 : Ann := ⟨[], [], lv171, [(2, [3, 0])]⟩
@[go_sem] theorem ann171_imm : ann171.imm = [] := rfl
@[go_sem] theorem ann171_frz : ann171.frz = [] := rfl
@[go_sem] theorem ann171_live : ann171.live = lv171 := rfl
@[go_sem] theorem ann171_head : ann171.head = [(2, [3, 0])] := rfl
@[go_sem] def lv172 : List (Nat × List Nat) := [(6, [2]), (3, [3, 0]), (5, [2]), (4, [0, 3, 19]), (2, [0, 3, 7]), (1, [3, 0]), (0, [0])]
def ann172 : Ann := ⟨[], [], lv172, [(2, [3, 0])]⟩
@[go_sem] theorem ann172_imm : ann172.imm = [] := rfl
@[go_sem] theorem ann172_frz : ann172.frz = [] := rfl
@[go_sem] theorem ann172_live : ann172.live = lv172 := rfl
@[go_sem] theorem ann172_head : ann172.head = [(2, [3, 0])] := rfl
@[go_sem] def lv173 : List (Nat × List Nat) := [(8, [6]), (6, [7, 2, 1, 3]), (7, [2, 1, 3, 7]), (5, [2, 3, 7, 1, 36]), (4, [7, 2, 1, 3]), (3, [2, 1, 3]), (2, [6]), (1, [2, 3, 1, 25]), (0, [2, 3, 1])]
def ann173 : Ann := ⟨[3], [], lv173, [(5, [7, 2, 1, 3])]⟩
@[go_sem] theorem ann173_imm : ann173.imm = [3] := rfl
@[go_sem] theorem ann173_frz : ann173.frz = [] := rfl
@[go_sem] theorem ann173_live : ann173.live = lv173 := rfl
@[go_sem] theorem ann173_head : ann173.head = [(5, [7, 2, 1, 3])] := rfl
def ann174 : Ann := ⟨[], [], [(1, [2]), (0, [0])], []⟩
@[go_sem] theorem ann174_imm : ann174.imm = [] := rfl
@[go_sem] theorem ann174_frz : ann174.frz = [] := rfl
@[go_sem] theorem ann174_live : ann174.live = [(1, [2]), (0, [0])] := rfl
@[go_sem] theorem ann174_head : ann174.head = [] := rfl
def ann186 : Ann := ⟨[], [], [(1, [2]), (0, [0])], []⟩
@[go_sem] theorem ann186_imm : ann186.imm = [] := rfl
@[go_sem] theorem ann186_frz : ann186.frz = [] := rfl
@[go_sem] theorem ann186_live : ann186.live = [(1, [2]), (0, [0])] := rfl
@[go_sem] theorem ann186_head : ann186.head = [] := rfl

theorem wf {f : FuncId} {fn : Func} {c : Code} {rv : List ResultVar} {args : List SV} {refs refs' : List Box} {r : PV} (A : Ann) (n : Nat) (hf : Tryz.prog.funcs[f]? = some fn) (h : argsFit args → AWp Tryz.prog A c (finK Tryz.prog rv r refs') (start args refs))
    (hb : fn.body = some c := by exact rfl) (hr : fn.results.toList = rv := by exact rfl) (hk : fnChk fn n args.length c = true := by kernel_rfl) (hlen : refs'.length = refs.length := by exact rfl) (hnm : (refs'.flatMap fun b => svNames b.c).all (isRefB refs.length) = true := by exact rfl) : Spec Tryz.prog f args refs r refs' :=
  Spec.walk A n hf mixed hb hr hk hlen hnm h
theorem wk {f : FuncId} {fn : Func} {c : Code} {rv : List ResultVar} {args : List SV} {refs refs' : List Box} {r : PV} (A : Ann) (n : Nat) (hf : Tryz.prog.funcs[f]? = some fn) (h : AWp Tryz.prog A c (finK Tryz.prog rv r refs') (start args refs))
    (hb : fn.body = some c := by exact rfl) (hr : fn.results.toList = rv := by exact rfl) (hk : fnChk fn n args.length c = true := by kernel_rfl) (hlen : refs'.length = refs.length := by exact rfl) (hnm : (refs'.flatMap fun b => svNames b.c).all (isRefB refs.length) = true := by exact rfl) : Spec Tryz.prog f args refs r refs' :=
  Spec.walk A n hf mixed hb hr hk hlen hnm fun _ => h
end Go.Abs.Kon
