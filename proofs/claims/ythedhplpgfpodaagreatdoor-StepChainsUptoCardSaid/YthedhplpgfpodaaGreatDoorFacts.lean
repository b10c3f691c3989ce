/- Closed facts on the types and functions of this program, printed by a program and checked by the kernel. -/
import Derived.Test.YthedhplpgfpodaaGreatDoorAbsC
import Derived.Test.YthedhplpgfpodaaGreatDoorProg
set_option linter.unusedSimpArgs false
set_option linter.unusedVariables false
namespace Go.Abs.Kon
open Go Go.Proofs Go.Abs
theorem mixed : Tryz.prog.follows .mixedOrders = true := by kernel_rfl
@[go_sem] theorem sz3 : szOf Tryz.prog 3 = some Sz.one := by kernel_rfl
@[go_sem] theorem zo3 : qch Tryz.prog 3 = some (Sz.one, SV.one (SC.pv (PV.int IntKind.i64 0))) := by kernel_rfl
@[go_sem] theorem eq3 : qcn Tryz.prog 3 = EqT.other := by kernel_rfl
@[go_sem] theorem cv3 : cvTOf Tryz.prog 3 = CvT.int IntKind.i64 := by kernel_rfl
@[go_sem] theorem sz4 : szOf Tryz.prog 4 = some Sz.one := by kernel_rfl
@[go_sem] theorem zo4 : qch Tryz.prog 4 = some (Sz.one, SV.one (SC.pv (PV.bool Bool.false))) := by kernel_rfl
@[go_sem] theorem sz5 : szOf Tryz.prog 5 = some Sz.one := by kernel_rfl
@[go_sem] theorem eq5 : qcn Tryz.prog 5 = EqT.other := by kernel_rfl
@[go_sem] theorem cv5 : cvTOf Tryz.prog 5 = CvT.int IntKind.u8 := by kernel_rfl
@[go_sem] theorem sz9 : szOf Tryz.prog 9 = some Sz.one := by kernel_rfl
@[go_sem] theorem eq9 : qcn Tryz.prog 9 = EqT.str := by kernel_rfl
@[go_sem] theorem cv9 : cvTOf Tryz.prog 9 = CvT.string := by kernel_rfl
@[go_sem] theorem sz22 : szOf Tryz.prog 22 = some Sz.one := by kernel_rfl
@[go_sem] theorem el22 : qcx Tryz.prog 22 = some 24 := by kernel_rfl
@[go_sem] theorem es22 : qbz Tryz.prog 22 = some (Sz.agg 1, 24) := by kernel_rfl
@[go_sem] theorem eq22 : qcn Tryz.prog 22 = EqT.other := by kernel_rfl
@[go_sem] theorem sz24 : szOf Tryz.prog 24 = some (Sz.agg 1) := by kernel_rfl
@[go_sem] theorem zo24 : qch Tryz.prog 24 = some (Sz.agg 1, SV.agg [SC.nilS]) := by kernel_rfl
@[go_sem] theorem pl24 : qe3 Tryz.prog 24 = some [(0, Sz.one)] := by kernel_rfl
@[go_sem] theorem fo24_0 : qap Tryz.prog 24 0 = some 0 := by kernel_rfl
@[go_sem] theorem sz25 : szOf Tryz.prog 25 = some Sz.one := by kernel_rfl
@[go_sem] theorem el25 : qcx Tryz.prog 25 = some 9 := by kernel_rfl
@[go_sem] theorem es25 : qbz Tryz.prog 25 = some (Sz.one, 16) := by kernel_rfl
@[go_sem] theorem eq25 : qcn Tryz.prog 25 = EqT.other := by kernel_rfl
@[go_sem] theorem sz26 : szOf Tryz.prog 26 = some Sz.one := by kernel_rfl
@[go_sem] theorem el26 : qcx Tryz.prog 26 = some 28 := by kernel_rfl
@[go_sem] theorem es26 : qbz Tryz.prog 26 = some (Sz.agg 6, 104) := by kernel_rfl
@[go_sem] theorem eq26 : qcn Tryz.prog 26 = EqT.other := by kernel_rfl
@[go_sem] theorem sz28 : szOf Tryz.prog 28 = some (Sz.agg 6) := by kernel_rfl
@[go_sem] theorem zo28 : qch Tryz.prog 28 = some (Sz.agg 6, SV.agg [SC.pv (PV.int IntKind.i64 0), SC.pv (PV.int IntKind.i64 0), SC.pv (PV.str ByteArray.empty), SC.nilS, SC.nilS, SC.nilS]) := by kernel_rfl
@[go_sem] theorem pl28 : qe3 Tryz.prog 28 = some [(0, Sz.one), (1, Sz.one), (2, Sz.one), (3, Sz.agg 1), (4, Sz.one), (5, Sz.one)] := by kernel_rfl
@[go_sem] theorem fo28_0 : qap Tryz.prog 28 0 = some 0 := by kernel_rfl
@[go_sem] theorem fo28_1 : qap Tryz.prog 28 1 = some 1 := by kernel_rfl
@[go_sem] theorem fo28_2 : qap Tryz.prog 28 2 = some 2 := by kernel_rfl
@[go_sem] theorem fo28_3 : qap Tryz.prog 28 3 = some 3 := by kernel_rfl
@[go_sem] theorem fo28_4 : qap Tryz.prog 28 4 = some 4 := by kernel_rfl
@[go_sem] theorem fo28_5 : qap Tryz.prog 28 5 = some 5 := by kernel_rfl
@[go_sem] theorem fs28_5 : fieldSz Tryz.prog 28 5 = some Sz.one := by kernel_rfl
@[go_sem] theorem sz50 : szOf Tryz.prog 50 = some Sz.one := by kernel_rfl
@[go_sem] theorem el50 : qcx Tryz.prog 50 = some 52 := by kernel_rfl
@[go_sem] theorem es50 : qbz Tryz.prog 50 = some (Sz.agg 18, 312) := by kernel_rfl
@[go_sem] theorem zo50 : qch Tryz.prog 50 = some (Sz.one, SV.one SC.nilS) := by kernel_rfl
@[go_sem] theorem eq50 : qcn Tryz.prog 50 = EqT.other := by kernel_rfl
@[go_sem] theorem sz52 : szOf Tryz.prog 52 = some (Sz.agg 18) := by kernel_rfl
@[go_sem] theorem zo52 : qch Tryz.prog 52 = some (Sz.agg 18, SV.agg [SC.pv (PV.int IntKind.i64 0), SC.pv (PV.int IntKind.i64 0), SC.pv (PV.str ByteArray.empty), SC.pv (PV.int IntKind.i64 0), SC.pv (PV.int IntKind.i64 0), SC.pv (PV.str ByteArray.empty), SC.nilS, SC.nilS, SC.nilS, SC.pv (PV.int IntKind.i64 0), SC.pv (PV.int IntKind.i64 0), SC.pv (PV.str ByteArray.empty), SC.nilS, SC.nilS, SC.nilS, SC.nilS, SC.nilS, SC.nilS]) := by kernel_rfl
@[go_sem] theorem pl52 : qe3 Tryz.prog 52 = some [(0, Sz.one), (1, Sz.one), (2, Sz.one), (3, Sz.agg 6), (9, Sz.agg 6), (15, Sz.agg 1), (16, Sz.one), (17, Sz.one)] := by kernel_rfl
@[go_sem] theorem fo52_0 : qap Tryz.prog 52 0 = some 0 := by kernel_rfl
@[go_sem] theorem fo52_1 : qap Tryz.prog 52 1 = some 1 := by kernel_rfl
@[go_sem] theorem fo52_2 : qap Tryz.prog 52 2 = some 2 := by kernel_rfl
@[go_sem] theorem fo52_3 : qap Tryz.prog 52 3 = some 3 := by kernel_rfl
@[go_sem] theorem fo52_4 : qap Tryz.prog 52 4 = some 9 := by kernel_rfl
@[go_sem] theorem fo52_5 : qap Tryz.prog 52 5 = some 15 := by kernel_rfl
@[go_sem] theorem fo52_6 : qap Tryz.prog 52 6 = some 16 := by kernel_rfl
@[go_sem] theorem fo52_7 : qap Tryz.prog 52 7 = some 17 := by kernel_rfl
@[go_sem] theorem sz104 : szOf Tryz.prog 104 = some Sz.one := by kernel_rfl
@[go_sem] theorem zo104 : qch Tryz.prog 104 = some (Sz.one, SV.one (SC.pv PV.nilfn)) := by kernel_rfl
@[go_sem] theorem sz106 : szOf Tryz.prog 106 = some Sz.one := by kernel_rfl
@[go_sem] theorem zo106 : qch Tryz.prog 106 = some (Sz.one, SV.one (SC.pv PV.nilfn)) := by kernel_rfl
@[go_sem] theorem el113 : qcx Tryz.prog 113 = some 25 := by kernel_rfl
@[go_sem] theorem es113 : qbz Tryz.prog 113 = some (Sz.one, 24) := by kernel_rfl
@[go_sem] theorem eq113 : qcn Tryz.prog 113 = EqT.other := by kernel_rfl
@[go_sem] theorem cv130 : cvTOf Tryz.prog 130 = CvT.int IntKind.u64 := by kernel_rfl
@[go_sem] theorem sz137 : szOf Tryz.prog 137 = some Sz.one := by kernel_rfl
@[go_sem] theorem sz140 : szOf Tryz.prog 140 = some Sz.one := by kernel_rfl
@[go_sem] theorem el140 : qcx Tryz.prog 140 = some 3 := by kernel_rfl
@[go_sem] theorem es140 : qbz Tryz.prog 140 = some (Sz.one, 8) := by kernel_rfl
@[go_sem] theorem zo140 : qch Tryz.prog 140 = some (Sz.one, SV.one SC.nilS) := by kernel_rfl
@[go_sem] theorem eq140 : qcn Tryz.prog 140 = EqT.other := by kernel_rfl
@[go_sem] theorem sz158 : szOf Tryz.prog 158 = some (Sz.agg 2) := by kernel_rfl
@[go_sem] theorem zo158 : qch Tryz.prog 158 = some (Sz.agg 2, SV.agg [SC.pv PV.nilfn, SC.pv (PV.int IntKind.i64 0)]) := by kernel_rfl
@[go_sem] theorem pl158 : qe3 Tryz.prog 158 = some [(0, Sz.one), (1, Sz.one)] := by kernel_rfl
@[go_sem] theorem fo158_0 : qap Tryz.prog 158 0 = some 0 := by kernel_rfl
@[go_sem] theorem fo158_1 : qap Tryz.prog 158 1 = some 1 := by kernel_rfl
@[go_sem] theorem el166 : qcx Tryz.prog 166 = some 5 := by kernel_rfl
@[go_sem] theorem es166 : qbz Tryz.prog 166 = some (Sz.one, 1) := by kernel_rfl
@[go_sem] theorem eq166 : qcn Tryz.prog 166 = EqT.other := by kernel_rfl
@[go_sem] theorem cv166 : cvTOf Tryz.prog 166 = CvT.bytes := by kernel_rfl
@[go_sem] theorem sz187 : szOf Tryz.prog 187 = some Sz.one := by kernel_rfl
@[go_sem] theorem sz188 : szOf Tryz.prog 188 = some Sz.one := by kernel_rfl
@[go_sem] theorem sz190 : szOf Tryz.prog 190 = some (Sz.agg 2) := by kernel_rfl
@[go_sem] theorem zo190 : qch Tryz.prog 190 = some (Sz.agg 2, SV.agg [SC.pv PV.nilfn, SC.pv PV.nilfn]) := by kernel_rfl
@[go_sem] theorem pl190 : qe3 Tryz.prog 190 = some [(0, Sz.one), (1, Sz.one)] := by kernel_rfl
@[go_sem] theorem fo190_0 : qap Tryz.prog 190 0 = some 0 := by kernel_rfl
@[go_sem] theorem fo190_1 : qap Tryz.prog 190 1 = some 1 := by kernel_rfl
@[go_sem] theorem sz194 : szOf Tryz.prog 194 = some (Sz.agg 2) := by kernel_rfl
@[go_sem] theorem zo194 : qch Tryz.prog 194 = some (Sz.agg 2, SV.agg [SC.pv (PV.int IntKind.i64 0), SC.pv (PV.int IntKind.i64 0)]) := by kernel_rfl
@[go_sem] theorem pl194 : qe3 Tryz.prog 194 = some [(0, Sz.one), (1, Sz.one)] := by kernel_rfl
@[go_sem] theorem fo194_0 : qap Tryz.prog 194 0 = some 0 := by kernel_rfl
@[go_sem] theorem fo194_1 : qap Tryz.prog 194 1 = some 1 := by kernel_rfl
@[go_sem] theorem sz218 : szOf Tryz.prog 218 = some Sz.one := by kernel_rfl
@[go_sem] theorem zo218 : qch Tryz.prog 218 = some (Sz.one, SV.one SC.any) := by kernel_rfl
@[go_sem] theorem mp218 : mapTOf Tryz.prog 218 = true := by kernel_rfl
@[go_sem] theorem eq237 : qcn Tryz.prog 237 = EqT.iface := by kernel_rfl
@[go_sem] def lv5 : List (Nat × List Nat) := [(14, [4]), (13, [4]), (12, [9, 13, 10, 7, 6, 5, 8, 11, 12, 105]), (11, [9, 13, 10, 7, 6, 5, 8, 11, 12]), (10, [4]), (9, [9, 10, 7, 6, 5, 8, 1, 2, 72]), (8, [4]), (7, [9, 10, 7, 6, 5, 8, 1, 2, 42]), (6, [9, 10, 7, 6, 5, 8, 1, 2]), (5, [7, 6, 5, 8, 1, 2]), (4, [4]), (3, [1, 2, 25]), (2, [4]), (1, [1, 2, 15]), (0, [1, 2])]
def ann5 : Ann := ⟨[2], [], lv5, []⟩
@[go_sem] theorem ann5_imm : ann5.imm = [2] := rfl
@[go_sem] theorem ann5_frz : ann5.frz = [] := rfl
@[go_sem] theorem ann5_live : ann5.live = lv5 := rfl
@[go_sem] theorem ann5_head : ann5.head = [] := rfl
@[go_sem] def lv7 : List (Nat × List Nat) := [(25, [6]), (24, [16, 27, 12, 17, 28, 13, 15, 26, 29]), (23, [6]), (22, [16, 12, 17, 13, 15, 8, 11, 167]), (21, [16, 12, 17, 13, 15, 8, 11, 25]), (20, [16, 12, 17, 13, 15, 8, 11, 155]), (19, [126, 9, 16, 12, 17, 13, 15, 8, 11, 7, 125]), (18, [6]), (17, [9, 16, 12, 17, 13, 15, 8, 11, 7, 125, 126, 149]), (16, [9, 16, 12, 17, 13, 15, 8, 11, 7, 125, 126, 19, 20, 22]), (15, [9, 16, 12, 17, 13, 15, 8, 11, 7, 125, 126, 19]), (14, [9, 16, 12, 17, 13, 15, 8, 11, 7, 125, 126, 127]), (13, [126, 9, 16, 12, 17, 13, 15, 8, 11, 7, 125]), (12, [6]), (11, [9, 16, 12, 17, 13, 15, 8, 11, 7, 122]), (10, [6]), (9, [15, 9, 18, 10, 16, 12, 17, 13, 8, 11, 7, 75]), (8, [15, 9, 18, 10, 16, 12, 17, 13, 8, 11, 7, 14]), (7, [9, 10, 12, 13, 8, 11, 7, 14, 3]), (6, [9, 10, 8, 7, 3]), (5, [6]), (4, [8, 7, 3, 39]), (3, [8, 7, 3]), (2, [6]), (1, [3, 2, 1, 31]), (0, [3, 2, 1])]
def ann7 : Ann := ⟨[3], [], lv7, [(14, [126, 9, 16, 12, 17, 13, 15, 8, 11, 7, 125])]⟩
@[go_sem] theorem ann7_imm : ann7.imm = [3] := rfl
@[go_sem] theorem ann7_frz : ann7.frz = [] := rfl
@[go_sem] theorem ann7_live : ann7.live = lv7 := rfl
@[go_sem] theorem ann7_head : ann7.head = [(14, [126, 9, 16, 12, 17, 13, 15, 8, 11, 7, 125])] := rfl
def ann11 : Ann := ⟨[1], [], [(1, [2]), (0, [1])], []⟩
@[go_sem] theorem ann11_imm : ann11.imm = [1] := rfl
@[go_sem] theorem ann11_frz : ann11.frz = [] := rfl
@[go_sem] theorem ann11_live : ann11.live = [(1, [2]), (0, [1])] := rfl
@[go_sem] theorem ann11_head : ann11.head = [] := rfl
@[go_sem] def lv13 : List (Nat × List Nat) := [(8, [4]), (5, [5, 3, 2]), (7, [4]), (6, [3, 2, 5, 68]), (4, [3, 2, 5, 54]), (3, [5, 3, 2]), (2, [4]), (1, [3, 2, 49]), (0, [3, 2])]
def ann13 : Ann := ⟨[2, 3], [], lv13, [(4, [5, 3, 2])]⟩
@[go_sem] theorem ann13_imm : ann13.imm = [2, 3] := rfl
@[go_sem] theorem ann13_frz : ann13.frz = [] := rfl
@[go_sem] theorem ann13_live : ann13.live = lv13 := rfl
@[go_sem] theorem ann13_head : ann13.head = [(4, [5, 3, 2])] := rfl
def ann17 : Ann := ⟨[2, 3], [], [(1, [4]), (0, [3, 2])], []⟩
@[go_sem] theorem ann17_imm : ann17.imm = [2, 3] := rfl
@[go_sem] theorem ann17_frz : ann17.frz = [] := rfl
@[go_sem] theorem ann17_live : ann17.live = [(1, [4]), (0, [3, 2])] := rfl
@[go_sem] theorem ann17_head : ann17.head = [] := rfl
@[go_sem] def lv23 : List (Nat × List Nat) := [(5, [0]), (4, [11, 5, 7, 8, 2, 4]), (3, [5, 7, 8, 2, 4]), (2, [2, 4, 1]), (1, [1]), (0, [])]
def ann23 : Ann := ⟨[], [], lv23, []⟩
@[go_sem] theorem ann23_imm : ann23.imm = [] := rfl
@[go_sem] theorem ann23_frz : ann23.frz = [] := rfl
@[go_sem] theorem ann23_live : ann23.live = lv23 := rfl
@[go_sem] theorem ann23_head : ann23.head = [] := rfl
@[go_sem] def lv24 : List (Nat × List Nat) := [(7, [2]), (6, [3]), (5, [3, 1, 5]), (4, [3, 1, 5, 4]), (3, [3, 1, 4]), (2, [3, 1, 4]), (1, [3, 1]), (0, [1])]
def ann24 : Ann := ⟨[1], [], lv24, []⟩
@[go_sem] theorem ann24_imm : ann24.imm = [1] := rfl
@[go_sem] theorem ann24_frz : ann24.frz = [] := rfl
@[go_sem] theorem ann24_live : ann24.live = lv24 := rfl
@[go_sem] theorem ann24_head : ann24.head = [] := rfl
@[go_sem] def lv25 : List (Nat × List Nat) := [(5, [4, 5, 6, 7]), (2, [4, 5, 6, 7]), (4, [4, 5, 6, 7]), (3, [4, 1, 2, 13]), (1, [4, 1, 2, 8]), (0, [4, 1, 2])]
def ann25 : Ann := ⟨[2], [], lv25, []⟩
@[go_sem] theorem ann25_imm : ann25.imm = [2] := rfl
@[go_sem] theorem ann25_frz : ann25.frz = [] := rfl
@[go_sem] theorem ann25_live : ann25.live = lv25 := rfl
@[go_sem] theorem ann25_head : ann25.head = [] := rfl
@[go_sem] def lv26 : List (Nat × List Nat) := [(9, [4, 5]), (8, [4, 5]), (7, [10, 6, 33]), (6, [10, 6]), (5, [6, 1, 2]), (2, [4, 5]), (4, [4, 5]), (3, [1, 2, 15]), (1, [1, 2, 11]), (0, [1, 2])]
def ann26 : Ann := ⟨[2], [2000009, 6000009], lv26, []⟩
@[go_sem] theorem ann26_imm : ann26.imm = [2] := rfl
@[go_sem] theorem ann26_frz : ann26.frz = [2000009, 6000009] := rfl
@[go_sem] theorem ann26_live : ann26.live = lv26 := rfl
@[go_sem] theorem ann26_head : ann26.head = [] := rfl
def ann27 : Ann := ⟨[1], [], [(1, [2]), (0, [1])], []⟩
@[go_sem] theorem ann27_imm : ann27.imm = [1] := rfl
@[go_sem] theorem ann27_frz : ann27.frz = [] := rfl
@[go_sem] theorem ann27_live : ann27.live = [(1, [2]), (0, [1])] := rfl
@[go_sem] theorem ann27_head : ann27.head = [] := rfl
def ann28 : Ann := ⟨[1], [], [(1, [2]), (0, [1])], []⟩
@[go_sem] theorem ann28_imm : ann28.imm = [1] := rfl
@[go_sem] theorem ann28_frz : ann28.frz = [] := rfl
@[go_sem] theorem ann28_live : ann28.live = [(1, [2]), (0, [1])] := rfl
@[go_sem] theorem ann28_head : ann28.head = [] := rfl
@[go_sem] def lv29 : List (Nat × List Nat) := [(16, [4, 5, 6]), (5, [8, 7, 9, 2, 1]), (15, [8, 7, 2, 1, 9]), (14, [8, 7, 2, 1, 9, 10]), (13, [4, 5, 6]), (12, [8, 2, 1, 9, 10, 7, 42]), (11, [8, 2, 1, 9, 10, 7]), (10, [4, 5, 6]), (9, [12, 2, 1, 9, 10, 7, 11, 8, 35]), (8, [4, 5, 6]), (7, [8, 7, 12, 2, 1, 9, 10, 11, 31]), (6, [8, 7, 12, 2, 1, 9, 10, 11]), (4, [8, 7, 2, 1, 9, 17]), (3, [8, 7, 9, 2, 1]), (2, [8, 7, 2, 1]), (1, [7, 2, 1]), (0, [2, 1])]
def ann29 : Ann := ⟨[], [], lv29, [(4, [8, 7, 9, 2, 1])]⟩
@[go_sem] theorem ann29_imm : ann29.imm = [] := rfl
@[go_sem] theorem ann29_frz : ann29.frz = [] := rfl
@[go_sem] theorem ann29_live : ann29.live = lv29 := rfl
@[go_sem] theorem ann29_head : ann29.head = [(4, [8, 7, 9, 2, 1])] := rfl
@[go_sem] def lv30 : List (Nat × List Nat) := [(8, [4]), (5, [5, 3, 2]), (7, [4]), (6, [3, 2, 5, 84]), (4, [3, 2, 5, 70]), (3, [5, 3, 2]), (2, [4]), (1, [3, 2, 65]), (0, [3, 2])]
def ann30 : Ann := ⟨[2, 3], [], lv30, [(4, [5, 3, 2])]⟩
@[go_sem] theorem ann30_imm : ann30.imm = [2, 3] := rfl
@[go_sem] theorem ann30_frz : ann30.frz = [] := rfl
@[go_sem] theorem ann30_live : ann30.live = lv30 := rfl
@[go_sem] theorem ann30_head : ann30.head = [(4, [5, 3, 2])] := rfl
@[go_sem] def lv31 : List (Nat × List Nat) := [(9, [4]), (8, [13, 1, 0, 12]), (7, [4]), (6, [1, 0, 12, 13, 24]), (5, [1, 0, 12, 13, 5]), (4, [1, 0, 12, 13, 14]), (3, [13, 1, 0, 12]), (2, [4]), (1, [1, 0, 10]), (0, [1, 0])]
def ann31 : Ann := ⟨[], [], lv31, [(4, [13, 1, 0, 12])]⟩
@[go_sem] theorem ann31_imm : ann31.imm = [] := rfl
@[go_sem] theorem ann31_frz : ann31.frz = [] := rfl
@[go_sem] theorem ann31_live : ann31.live = lv31 := rfl
@[go_sem] theorem ann31_head : ann31.head = [(4, [13, 1, 0, 12])] := rfl
@[go_sem] def lv32 : List (Nat × List Nat) := [(10, [6]), (9, [17, 2, 1, 15, 16]), (8, [6]), (7, [2, 1, 15, 16, 17, 30]), (6, [2, 1, 15, 16, 17, 9, 8]), (5, [2, 1, 15, 16, 17, 8, 7]), (4, [2, 1, 15, 16, 17, 18]), (3, [17, 2, 1, 15, 16]), (2, [6]), (1, [2, 1, 0, 14]), (0, [2, 1, 0])]
def ann32 : Ann := ⟨[], [], lv32, [(4, [17, 2, 1, 15, 16])]⟩
@[go_sem] theorem ann32_imm : ann32.imm = [] := rfl
@[go_sem] theorem ann32_frz : ann32.frz = [] := rfl
@[go_sem] theorem ann32_live : ann32.live = lv32 := rfl
@[go_sem] theorem ann32_head : ann32.head = [(4, [17, 2, 1, 15, 16])] := rfl
@[go_sem] def lv34 : List (Nat × List Nat) := [(6, [2]), (5, [2]), (4, [3, 10]), (3, [3]), (2, [2]), (1, [1, 5]), (0, [1])]
def ann34 : Ann := ⟨[1], [], lv34, []⟩
@[go_sem] theorem ann34_imm : ann34.imm = [1] := rfl
@[go_sem] theorem ann34_frz : ann34.frz = [] := rfl
@[go_sem] theorem ann34_live : ann34.live = lv34 := rfl
@[go_sem] theorem ann34_head : ann34.head = [] := rfl
@[go_sem] def lv37 : List (Nat × List Nat) := [(10, [2, 3, 4]), (9, [2, 3, 4]), (8, [2, 4, 3, 28]), (7, [2, 4, 3]), (6, [2, 3, 4, 26]), (5, [2, 3, 4]), (2, [2, 3, 4]), (4, [2, 3, 4]), (3, [2, 1, 10]), (1, [2, 1, 5]), (0, [2, 1])]
def ann37 : Ann := ⟨[1], [], lv37, []⟩
@[go_sem] theorem ann37_imm : ann37.imm = [1] := rfl
@[go_sem] theorem ann37_frz : ann37.frz = [] := rfl
@[go_sem] theorem ann37_live : ann37.live = lv37 := rfl
@[go_sem] theorem ann37_head : ann37.head = [] := rfl
@[go_sem] def lv38 : List (Nat × List Nat) := [(13, [2, 3, 4]), (12, [2, 3, 4]), (11, [2, 6, 9, 40]), (10, [2, 3, 4]), (9, [2, 6, 9, 7, 38]), (8, [2, 6, 9, 7]), (7, [2, 3, 4]), (6, [2, 6, 7, 5, 1, 31]), (5, [2, 6, 7, 5, 1, 8]), (4, [2, 3, 4]), (3, [2, 1, 20]), (2, [2, 3, 4]), (1, [2, 1, 12]), (0, [2, 1])]
def ann38 : Ann := ⟨[1], [], lv38, []⟩
@[go_sem] theorem ann38_imm : ann38.imm = [1] := rfl
@[go_sem] theorem ann38_frz : ann38.frz = [] := rfl
@[go_sem] theorem ann38_live : ann38.live = lv38 := rfl
@[go_sem] theorem ann38_head : ann38.head = [] := rfl
@[go_sem] def lv39 : List (Nat × List Nat) := [(15, [2]), (14, [27, 6, 25, 26]), (13, [6, 25, 26, 27]), (12, [25, 26, 27, 8, 6]), (11, [25, 26, 27, 6, 28]), (10, [27, 6, 25, 26]), (9, [6, 0]), (8, [11, 3, 9, 0, 10]), (7, [3, 9, 0, 10, 11]), (6, [3, 9, 0, 10, 11, 20]), (5, [3, 9, 0, 10, 11]), (4, [9, 0, 10, 11, 5, 3]), (3, [9, 0, 10, 11, 3, 12]), (2, [11, 3, 9, 0, 10]), (1, [3, 0]), (0, [0])]
def ann39 : Ann := ⟨[], [], lv39, [(11, [27, 6, 25, 26]), (3, [11, 3, 9, 0, 10])]⟩
@[go_sem] theorem ann39_imm : ann39.imm = [] := rfl
@[go_sem] theorem ann39_frz : ann39.frz = [] := rfl
@[go_sem] theorem ann39_live : ann39.live = lv39 := rfl
@[go_sem] theorem ann39_head : ann39.head = [(11, [27, 6, 25, 26]), (3, [11, 3, 9, 0, 10])] := rfl
def ann42 : Ann := ⟨[], [], [(2, [0]), (1, [0, 1]), (0, [0])], []⟩
@[go_sem] theorem ann42_imm : ann42.imm = [] := rfl
@[go_sem] theorem ann42_frz : ann42.frz = [] := rfl
@[go_sem] theorem ann42_live : ann42.live = [(2, [0]), (1, [0, 1]), (0, [0])] := rfl
@[go_sem] theorem ann42_head : ann42.head = [] := rfl
def ann43 : Ann := ⟨[], [], [(1, [4]), (0, [1, 0])], []⟩
@[go_sem] theorem ann43_imm : ann43.imm = [] := rfl
@[go_sem] theorem ann43_frz : ann43.frz = [] := rfl
@[go_sem] theorem ann43_live : ann43.live = [(1, [4]), (0, [1, 0])] := rfl
@[go_sem] theorem ann43_head : ann43.head = [] := rfl
def ann46 : Ann := ⟨[1], [], [(1, [2]), (0, [1])], []⟩
@[go_sem] theorem ann46_imm : ann46.imm = [1] := rfl
@[go_sem] theorem ann46_frz : ann46.frz = [] := rfl
@[go_sem] theorem ann46_live : ann46.live = [(1, [2]), (0, [1])] := rfl
@[go_sem] theorem ann46_head : ann46.head = [] := rfl
def ann47 : Ann := ⟨[1], [], [(1, [2]), (0, [1])], []⟩
@[go_sem] theorem ann47_imm : ann47.imm = [1] := rfl
@[go_sem] theorem ann47_frz : ann47.frz = [] := rfl
@[go_sem] theorem ann47_live : ann47.live = [(1, [2]), (0, [1])] := rfl
@[go_sem] theorem ann47_head : ann47.head = [] := rfl
@[go_sem] def lv48 : List (Nat × List Nat) := [(8, [2]), (5, [3, 1]), (7, [2]), (6, [1, 3, 20]), (4, [1, 3, 11]), (3, [3, 1]), (2, [2]), (1, [1, 6]), (0, [1])]
def ann48 : Ann := ⟨[1], [], lv48, [(4, [3, 1])]⟩
@[go_sem] theorem ann48_imm : ann48.imm = [1] := rfl
@[go_sem] theorem ann48_frz : ann48.frz = [] := rfl
@[go_sem] theorem ann48_live : ann48.live = lv48 := rfl
@[go_sem] theorem ann48_head : ann48.head = [(4, [3, 1])] := rfl
@[go_sem] def lv50 : List (Nat × List Nat) := [(8, [4]), (5, [5, 3, 2]), (7, [4]), (6, [3, 2, 5, 31]), (4, [3, 2, 5, 17]), (3, [5, 3, 2]), (2, [4]), (1, [3, 2, 12]), (0, [3, 2])]
def ann50 : Ann := ⟨[2, 3], [], lv50, [(4, [5, 3, 2])]⟩
@[go_sem] theorem ann50_imm : ann50.imm = [2, 3] := rfl
@[go_sem] theorem ann50_frz : ann50.frz = [] := rfl
@[go_sem] theorem ann50_live : ann50.live = lv50 := rfl
@[go_sem] theorem ann50_head : ann50.head = [(4, [5, 3, 2])] := rfl
@[go_sem] def lv51 : List (Nat × List Nat) := [(8, [4]), (5, [5, 1, 0]), (7, [4]), (6, [1, 0, 5, 25]), (4, [1, 0, 5, 14]), (3, [5, 1, 0]), (2, [4]), (1, [1, 0, 10]), (0, [1, 0])]
def ann51 : Ann := ⟨[], [], lv51, [(4, [5, 1, 0])]⟩
@[go_sem] theorem ann51_imm : ann51.imm = [] := rfl
@[go_sem] theorem ann51_frz : ann51.frz = [] := rfl
@[go_sem] theorem ann51_live : ann51.live = lv51 := rfl
@[go_sem] theorem ann51_head : ann51.head = [(4, [5, 1, 0])] := rfl
def ann56 : Ann := ⟨[], [], [(1, [2]), (0, [0])], []⟩
@[go_sem] theorem ann56_imm : ann56.imm = [] := rfl
@[go_sem] theorem ann56_frz : ann56.frz = [] := rfl
@[go_sem] theorem ann56_live : ann56.live = [(1, [2]), (0, [0])] := rfl
@[go_sem] theorem ann56_head : ann56.head = [] := rfl
def ann61 : Ann := ⟨[], [], [(1, [0]), (0, [0])], []⟩
@[go_sem] theorem ann61_imm : ann61.imm = [] := rfl
@[go_sem] theorem ann61_frz : ann61.frz = [] := rfl
@[go_sem] theorem ann61_live : ann61.live = [(1, [0]), (0, [0])] := rfl
@[go_sem] theorem ann61_head : ann61.head = [] := rfl
def ann64 : Ann := ⟨[2, 3], [], [(1, [4]), (0, [3, 2])], []⟩
@[go_sem] theorem ann64_imm : ann64.imm = [2, 3] := rfl
@[go_sem] theorem ann64_frz : ann64.frz = [] := rfl
@[go_sem] theorem ann64_live : ann64.live = [(1, [4]), (0, [3, 2])] := rfl
@[go_sem] theorem ann64_head : ann64.head = [] := rfl
@[go_sem] def lv65 : List (Nat × List Nat) := [(10, [6]), (9, [17, 2, 1, 15, 16]), (8, [6]), (7, [2, 1, 15, 16, 17, 30]), (6, [2, 1, 15, 16, 17, 9, 8]), (5, [2, 1, 15, 16, 17, 8, 7]), (4, [2, 1, 15, 16, 17, 18]), (3, [17, 2, 1, 15, 16]), (2, [6]), (1, [2, 1, 0, 14]), (0, [2, 1, 0])]
def ann65 : Ann := ⟨[], [], lv65, [(4, [17, 2, 1, 15, 16])]⟩
@[go_sem] theorem ann65_imm : ann65.imm = [] := rfl
@[go_sem] theorem ann65_frz : ann65.frz = [] := rfl
@[go_sem] theorem ann65_live : ann65.live = lv65 := rfl
@[go_sem] theorem ann65_head : ann65.head = [(4, [17, 2, 1, 15, 16])] := rfl
def ann71 : Ann := ⟨[], [], [(1, [6]), (0, [6, 2, 1, 0])], []⟩
@[go_sem] theorem ann71_imm : ann71.imm = [] := rfl
@[go_sem] theorem ann71_frz : ann71.frz = [] := rfl
@[go_sem] theorem ann71_live : ann71.live = [(1, [6]), (0, [6, 2, 1, 0])] := rfl
@[go_sem] theorem ann71_head : ann71.head = [] := rfl
@[go_sem] def lv72 : List (Nat × List Nat) := [(6, [6, 1, 4, 3, 2]), (7, [1, 4, 3, 2, 6]), (5, [1, 4, 3, 2, 6, 49]), (4, [6, 1, 4, 3, 2]), (3, []), (2, [2, 1, 4, 3, 40]), (1, [2, 1, 4, 3]), (0, [2, 1, 4, 3])]
def ann72 : Ann := ⟨[4], [], lv72, [(5, [6, 1, 4, 3, 2])]⟩
@[go_sem] theorem ann72_imm : ann72.imm = [4] := rfl
@[go_sem] theorem ann72_frz : ann72.frz = [] := rfl
@[go_sem] theorem ann72_live : ann72.live = lv72 := rfl
@[go_sem] theorem ann72_head : ann72.head = [(5, [6, 1, 4, 3, 2])] := rfl
def ann73 : Ann := ⟨[], [], [(1, [4]), (0, [1, 0])], []⟩
@[go_sem] theorem ann73_imm : ann73.imm = [] := rfl
@[go_sem] theorem ann73_frz : ann73.frz = [] := rfl
@[go_sem] theorem ann73_live : ann73.live = [(1, [4]), (0, [1, 0])] := rfl
@[go_sem] theorem ann73_head : ann73.head = [] := rfl
def ann74 : Ann := ⟨[], [], [(1, [2]), (0, [0])], []⟩
@[go_sem] theorem ann74_imm : ann74.imm = [] := rfl
@[go_sem] theorem ann74_frz : ann74.frz = [] := rfl
@[go_sem] theorem ann74_live : ann74.live = [(1, [2]), (0, [0])] := rfl
@[go_sem] theorem ann74_head : ann74.head = [] := rfl
@[go_sem] def lv75 : List (Nat × List Nat) := [(8, [7, 1, 5, 4, 2]), (9, [1, 5, 4, 2, 7]), (7, [1, 5, 4, 2, 7, 58]), (6, [7, 1, 5, 4, 2]), (5, [1, 5, 4, 2]), (4, [1, 5, 4, 2, 3]), (3, []), (2, [2, 1, 5, 4, 3, 41]), (1, [2, 1, 5, 4, 3]), (0, [2, 1, 5, 4, 3])]
def ann75 : Ann := ⟨[5], [], lv75, [(7, [7, 1, 5, 4, 2])]⟩
@[go_sem] theorem ann75_imm : ann75.imm = [5] := rfl
@[go_sem] theorem ann75_frz : ann75.frz = [] := rfl
@[go_sem] theorem ann75_live : ann75.live = lv75 := rfl
@[go_sem] theorem ann75_head : ann75.head = [(7, [7, 1, 5, 4, 2])] := rfl
def ann76 : Ann := ⟨[], [], [(1, [2]), (0, [0])], []⟩
@[go_sem] theorem ann76_imm : ann76.imm = [] := rfl
@[go_sem] theorem ann76_frz : ann76.frz = [] := rfl
@[go_sem] theorem ann76_live : ann76.live = [(1, [2]), (0, [0])] := rfl
@[go_sem] theorem ann76_head : ann76.head = [] := rfl
def ann77 : Ann := ⟨[1], [], [(2, [2]), (1, [4, 3, 5]), (0, [1])], []⟩
@[go_sem] theorem ann77_imm : ann77.imm = [1] := rfl
@[go_sem] theorem ann77_frz : ann77.frz = [] := rfl
@[go_sem] theorem ann77_live : ann77.live = [(2, [2]), (1, [4, 3, 5]), (0, [1])] := rfl
@[go_sem] theorem ann77_head : ann77.head = [] := rfl
@[go_sem] def lv78 : List (Nat × List Nat) := [(13, [6, 7, 8, 9]), (12, [6, 8, 7, 3, 2, 1]), (11, [6, 8, 7, 3, 2, 1]), (10, [6, 7, 3, 2, 1, 8]), (5, [6, 7, 8, 9]), (7, [6, 7, 8, 9]), (9, [6, 7, 8, 9]), (8, [6, 3, 2, 1, 8, 11, 7, 10, 36]), (6, [6, 8, 7, 3, 2, 1, 11, 10, 30]), (4, [6, 12, 8, 7, 3, 2, 1, 11, 10, 25]), (3, [6, 12, 8, 7, 3, 2, 1, 11, 10]), (2, [6, 8, 7, 3, 2, 1, 18]), (1, [6, 8, 7, 3, 2, 1]), (0, [6, 8, 7, 3, 2, 1])]
def ann78 : Ann := ⟨[], [], lv78, [(2, [6, 8, 7, 3, 2, 1])]⟩
@[go_sem] theorem ann78_imm : ann78.imm = [] := rfl
@[go_sem] theorem ann78_frz : ann78.frz = [] := rfl
@[go_sem] theorem ann78_live : ann78.live = lv78 := rfl
@[go_sem] theorem ann78_head : ann78.head = [(2, [6, 8, 7, 3, 2, 1])] := rfl
def ann79 : Ann := ⟨[1], [], [(2, [2]), (1, [2, 3]), (0, [2, 1])], []⟩
@[go_sem] theorem ann79_imm : ann79.imm = [1] := rfl
@[go_sem] theorem ann79_frz : ann79.frz = [] := rfl
@[go_sem] theorem ann79_live : ann79.live = [(2, [2]), (1, [2, 3]), (0, [2, 1])] := rfl
@[go_sem] theorem ann79_head : ann79.head = [] := rfl
def ann80 : Ann := ⟨[1], [], [(0, [])], []⟩
@[go_sem] theorem ann80_imm : ann80.imm = [1] := rfl
@[go_sem] theorem ann80_frz : ann80.frz = [] := rfl
@[go_sem] theorem ann80_live : ann80.live = [(0, [])] := rfl
@[go_sem] theorem ann80_head : ann80.head = [] := rfl
def ann81 : Ann := ⟨[2], [3000008, 5000001], [(1, []), (0, [1, 2])], []⟩
@[go_sem] theorem ann81_imm : ann81.imm = [2] := rfl
@[go_sem] theorem ann81_frz : ann81.frz = [3000008, 5000001] := rfl
@[go_sem] theorem ann81_live : ann81.live = [(1, []), (0, [1, 2])] := rfl
@[go_sem] theorem ann81_head : ann81.head = [] := rfl
def ann82 : Ann := ⟨[1], [], [(1, [2]), (0, [1])], []⟩
@[go_sem] theorem ann82_imm : ann82.imm = [1] := rfl
@[go_sem] theorem ann82_frz : ann82.frz = [] := rfl
@[go_sem] theorem ann82_live : ann82.live = [(1, [2]), (0, [1])] := rfl
@[go_sem] theorem ann82_head : ann82.head = [] := rfl
def ann83 : Ann := ⟨[1], [], [(1, [2]), (0, [1])], []⟩
@[go_sem] theorem ann83_imm : ann83.imm = [1] := rfl
@[go_sem] theorem ann83_frz : ann83.frz = [] := rfl
@[go_sem] theorem ann83_live : ann83.live = [(1, [2]), (0, [1])] := rfl
@[go_sem] theorem ann83_head : ann83.head = [] := rfl
@[go_sem] def lv84 : List (Nat × List Nat) := [(14, [2]), (6, [2]), (8, [2]), (13, [2]), (12, [1, 17]), (11, [1, 17, 4]), (10, [1, 17, 4]), (9, [1, 17, 4]), (7, [1, 4, 10]), (5, [1, 4, 5]), (4, [1, 4, 5]), (3, [1, 4, 5]), (2, [1, 4, 5]), (1, [1, 4]), (0, [1])]
def ann84 : Ann := ⟨[1], [], lv84, []⟩
@[go_sem] theorem ann84_imm : ann84.imm = [1] := rfl
@[go_sem] theorem ann84_frz : ann84.frz = [] := rfl
@[go_sem] theorem ann84_live : ann84.live = lv84 := rfl
@[go_sem] theorem ann84_head : ann84.head = [] := rfl
@[go_sem] def lv85 : List (Nat × List Nat) := [(7, [2]), (6, [6, 1, 5]), (5, [2]), (4, [3, 1, 5, 6, 15]), (3, [3, 1, 5, 6]), (2, [1, 5, 6, 7]), (1, [6, 1, 5]), (0, [1])]
def ann85 : Ann := ⟨[1], [], lv85, [(2, [6, 1, 5])]⟩
@[go_sem] theorem ann85_imm : ann85.imm = [1] := rfl
@[go_sem] theorem ann85_frz : ann85.frz = [] := rfl
@[go_sem] theorem ann85_live : ann85.live = lv85 := rfl
@[go_sem] theorem ann85_head : ann85.head = [(2, [6, 1, 5])] := rfl
@[go_sem] def lv86 : List (Nat × List Nat) := [(19, [2]), (6, [2]), (8, [2]), (18, [2]), (15, [3, 1]), (17, [2]), (16, [1, 3, 45]), (14, [1, 3, 36]), (13, [3, 1]), (12, [1, 27]), (11, [1, 27, 5]), (10, [1, 27, 5]), (9, [1, 27, 5]), (7, [1, 5, 11]), (5, [1, 5, 6]), (4, [1, 5, 6]), (3, [1, 5, 6]), (2, [1, 5, 6]), (1, [1, 5]), (0, [1])]
def ann86 : Ann := ⟨[1], [], lv86, [(14, [3, 1])]⟩
@[go_sem] theorem ann86_imm : ann86.imm = [1] := rfl
@[go_sem] theorem ann86_frz : ann86.frz = [] := rfl
@[go_sem] theorem ann86_live : ann86.live = lv86 := rfl
@[go_sem] theorem ann86_head : ann86.head = [(14, [3, 1])] := rfl
@[go_sem] def lv87 : List (Nat × List Nat) := [(6, [2]), (3, [2, 3, 1]), (5, [2]), (4, [2, 3, 1, 16]), (2, [2, 3, 1, 7]), (1, [2, 3, 1]), (0, [2, 1])]
def ann87 : Ann := ⟨[1], [], lv87, [(2, [2, 3, 1])]⟩
@[go_sem] theorem ann87_imm : ann87.imm = [1] := rfl
@[go_sem] theorem ann87_frz : ann87.frz = [] := rfl
@[go_sem] theorem ann87_live : ann87.live = lv87 := rfl
@[go_sem] theorem ann87_head : ann87.head = [(2, [2, 3, 1])] := rfl
@[go_sem] def lv88 : List (Nat × List Nat) := [(12, [2, 3, 4]), (11, [2, 3]), (10, [2, 3, 6, 5]), (9, [2, 3, 6, 5, 1]), (8, [2, 3, 4]), (7, [2, 4, 3, 6, 5, 1, 31]), (6, [2, 4, 3, 6, 5, 1]), (5, [2, 3, 4]), (4, [2, 3, 4]), (3, [2, 1, 13]), (2, [2, 1, 5, 10]), (1, [2, 1, 5]), (0, [2, 1])]
def ann88 : Ann := ⟨[1], [9000037, 2000011, 7000011, 2000012, 8000012], lv88, []⟩
@[go_sem] theorem ann88_imm : ann88.imm = [1] := rfl
@[go_sem] theorem ann88_frz : ann88.frz = [9000037, 2000011, 7000011, 2000012, 8000012] := rfl
@[go_sem] theorem ann88_live : ann88.live = lv88 := rfl
@[go_sem] theorem ann88_head : ann88.head = [] := rfl
def ann89 : Ann := ⟨[1], [], [(2, [2]), (1, [4]), (0, [1])], []⟩
@[go_sem] theorem ann89_imm : ann89.imm = [1] := rfl
@[go_sem] theorem ann89_frz : ann89.frz = [] := rfl
@[go_sem] theorem ann89_live : ann89.live = [(2, [2]), (1, [4]), (0, [1])] := rfl
@[go_sem] theorem ann89_head : ann89.head = [] := rfl
@[go_sem] def lv90 : List (Nat × List Nat) := [(33, [2, 3, 4, 5]), (11, [2, 3, 4, 5]), (10, [2, 1, 6, 58]), (9, [2, 3, 4, 5]), (8, [2, 1, 6, 38]), (16, [2, 3, 4, 5]), (15, [2, 6, 1, 94]), (14, [2, 3, 4, 5]), (13, [2, 1, 6, 75]), (19, [2, 3, 4, 5]), (18, [2, 6, 1, 109]), (23, [2, 3, 4, 5]), (22, [2, 7, 6, 136]), (21, [2, 7, 6]), (27, [2, 3, 4, 5]), (26, [2, 6, 8, 1, 155]), (25, [2, 6, 8, 1]), (30, [2, 3, 4, 5]), (29, [2, 6, 171]), (32, [2, 3, 4, 5]), (31, [2, 6, 1, 176]), (28, [2, 6, 1, 33, 167]), (24, [2, 6, 1, 33, 142]), (20, [2, 6, 1, 33, 123]), (17, [2, 6, 1, 33, 105]), (12, [2, 1, 6, 33, 71]), (7, [2, 1, 6, 33, 34]), (6, [2, 1, 6, 33]), (5, [2, 1, 6]), (4, [2, 3, 4, 5]), (3, [2, 1, 26]), (2, [2, 3, 4, 5]), (1, [2, 1, 11]), (0, [2, 1])]
def ann90 : Ann := ⟨[1], [], lv90, []⟩
@[go_sem] theorem ann90_imm : ann90.imm = [1] := rfl
@[go_sem] theorem ann90_frz : ann90.frz = [] := rfl
@[go_sem] theorem ann90_live : ann90.live = lv90 := rfl
@[go_sem] theorem ann90_head : ann90.head = [] := rfl
@[go_sem] def lv91 : List (Nat × List Nat) := [(9, [4]), (3, [4, 3, 5, 2]), (8, [4]), (7, [4, 6]), (6, [4, 6, 3, 5, 2]), (5, [4, 6, 3, 5, 2]), (4, [4, 3, 5, 2, 19]), (2, [4, 3, 5, 2, 10]), (1, [4, 3, 5, 2]), (0, [4, 3, 2])]
def ann91 : Ann := ⟨[2, 3], [1000024, 2000007, 7000007, 2000008, 8000008], lv91, [(2, [4, 3, 5, 2])]⟩
@[go_sem] theorem ann91_imm : ann91.imm = [2, 3] := rfl
@[go_sem] theorem ann91_frz : ann91.frz = [1000024, 2000007, 7000007, 2000008, 8000008] := rfl
@[go_sem] theorem ann91_live : ann91.live = lv91 := rfl
@[go_sem] theorem ann91_head : ann91.head = [(2, [4, 3, 5, 2])] := rfl
@[go_sem] def lv98 : List (Nat × List Nat) := [(7, [4]), (6, [8, 0, 1, 7]), (5, [4]), (4, [5, 0, 1, 7, 8, 16]), (3, [5, 0, 1, 7, 8]), (2, [0, 1, 7, 8, 9]), (1, [8, 0, 1, 7]), (0, [0, 1])]
def ann98 : Ann := ⟨[], [], lv98, [(2, [8, 0, 1, 7])]⟩
@[go_sem] theorem ann98_imm : ann98.imm = [] := rfl
@[go_sem] theorem ann98_frz : ann98.frz = [] := rfl
@[go_sem] theorem ann98_live : ann98.live = lv98 := rfl
@[go_sem] theorem ann98_head : ann98.head = [(2, [8, 0, 1, 7])] := rfl
@[go_sem] def lv102 : List (Nat × List Nat) := [(7, [2]), (6, [9, 3, 7, 8]), (5, [3, 7, 8, 9]), (4, [7, 8, 9, 5, 3]), (3, [7, 8, 9, 3, 10]), (2, [9, 3, 7, 8]), (1, [3, 1]), (0, [1])]
def ann102 : Ann := ⟨[1], [], lv102, [(3, [9, 3, 7, 8])]⟩
@[go_sem] theorem ann102_imm : ann102.imm = [1] := rfl
@[go_sem] theorem ann102_frz : ann102.frz = [] := rfl
@[go_sem] theorem ann102_live : ann102.live = lv102 := rfl
@[go_sem] theorem ann102_head : ann102.head = [(3, [9, 3, 7, 8])] := rfl
@[go_sem] def lv103 : List (Nat × List Nat) := [(7, [2]), (6, [9, 3, 7, 8]), (5, [3, 7, 8, 9]), (4, [7, 8, 9, 5, 3]), (3, [7, 8, 9, 3, 10]), (2, [9, 3, 7, 8]), (1, [3, 1]), (0, [1])]
def ann103 : Ann := ⟨[1], [], lv103, [(3, [9, 3, 7, 8])]⟩
@[go_sem] theorem ann103_imm : ann103.imm = [1] := rfl
@[go_sem] theorem ann103_frz : ann103.frz = [] := rfl
@[go_sem] theorem ann103_live : ann103.live = lv103 := rfl
@[go_sem] theorem ann103_head : ann103.head = [(3, [9, 3, 7, 8])] := rfl
@[go_sem] def lv104 : List (Nat × List Nat) := [(17, [2]), (16, [2]), (15, [1, 95]), (14, [2]), (13, [1, 69]), (12, [1, 3]), (11, [2]), (10, [1, 44]), (9, [2]), (8, [1, 25]), (5, [2]), (4, [1, 14]), (7, [1, 15]), (6, [1, 15, 11]), (3, [1, 11]), (2, [2]), (1, [1, 9]), (0, [1])]
def ann104 : Ann := ⟨[1], [], lv104, []⟩
@[go_sem] theorem ann104_imm : ann104.imm = [1] := rfl
@[go_sem] theorem ann104_frz : ann104.frz = [] := rfl
@[go_sem] theorem ann104_live : ann104.live = lv104 := rfl
@[go_sem] theorem ann104_head : ann104.head = [] := rfl
@[go_sem] def lv105 : List (Nat × List Nat) := [(8, [6]), (6, [8, 2, 7, 1, 3]), (7, [2, 7, 1, 3, 8]), (5, [2, 1, 3, 8, 7, 21]), (4, [8, 2, 7, 1, 3]), (3, [2, 7, 1, 3]), (2, [6]), (1, [1, 2, 3, 10]), (0, [1, 2, 3])]
def ann105 : Ann := ⟨[3], [], lv105, [(5, [8, 2, 7, 1, 3])]⟩
@[go_sem] theorem ann105_imm : ann105.imm = [3] := rfl
@[go_sem] theorem ann105_frz : ann105.frz = [] := rfl
@[go_sem] theorem ann105_live : ann105.live = lv105 := rfl
@[go_sem] theorem ann105_head : ann105.head = [(5, [8, 2, 7, 1, 3])] := rfl
@[go_sem] def lv106 : List (Nat × List Nat) := [(15, [2]), (14, [2]), (13, [1, 94]), (12, [2]), (11, [1, 86]), (8, [2]), (7, [1, 64]), (10, [2]), (9, [1, 67]), (6, [1, 56]), (5, [2]), (4, [1, 48]), (3, [1, 3]), (2, [2]), (1, [1, 11]), (0, [1])]
def ann106 : Ann := ⟨[1], [], lv106, []⟩
@[go_sem] theorem ann106_imm : ann106.imm = [1] := rfl
@[go_sem] theorem ann106_frz : ann106.frz = [] := rfl
@[go_sem] theorem ann106_live : ann106.live = lv106 := rfl
@[go_sem] theorem ann106_head : ann106.head = [] := rfl
def ann110 : Ann := ⟨[], [], [(1, [2]), (0, [0])], []⟩
@[go_sem] theorem ann110_imm : ann110.imm = [] := rfl
@[go_sem] theorem ann110_frz : ann110.frz = [] := rfl
@[go_sem] theorem ann110_live : ann110.live = [(1, [2]), (0, [0])] := rfl
@[go_sem] theorem ann110_head : ann110.head = [] := rfl
@[go_sem] def lv111 : List (Nat × List Nat) := [(10, [4]), (9, [25, 23, 24]), (8, [4]), (7, [23, 24, 25, 36]), (6, [23, 24, 25, 7]), (5, [23, 24, 25, 6]), (4, [23, 24, 25, 26]), (3, [25, 23, 24]), (2, [4]), (1, [0, 21]), (0, [0, 1])]
def ann111 : Ann := ⟨[], [], lv111, [(4, [25, 23, 24])]⟩
@[go_sem] theorem ann111_imm : ann111.imm = [] := rfl
@[go_sem] theorem ann111_frz : ann111.frz = [] := rfl
@[go_sem] theorem ann111_live : ann111.live = lv111 := rfl
@[go_sem] theorem ann111_head : ann111.head = [(4, [25, 23, 24])] := rfl
def ann113 : Ann := ⟨[], [], [(2, [2]), (1, [2]), (0, [0])], []⟩
@[go_sem] theorem ann113_imm : ann113.imm = [] := rfl
@[go_sem] theorem ann113_frz : ann113.frz = [] := rfl
@[go_sem] theorem ann113_live : ann113.live = [(2, [2]), (1, [2]), (0, [0])] := rfl
@[go_sem] theorem ann113_head : ann113.head = [] := rfl
@[go_sem] def lv119 : List (Nat × List Nat) := [(10, [6]), (9, [17, 2, 1, 15, 16]), (8, [6]), (7, [2, 1, 15, 16, 17, 30]), (6, [2, 1, 15, 16, 17, 9, 8]), (5, [2, 1, 15, 16, 17, 8, 7]), (4, [2, 1, 15, 16, 17, 18]), (3, [17, 2, 1, 15, 16]), (2, [6]), (1, [2, 1, 0, 14]), (0, [2, 1, 0])]
def ann119 : Ann := ⟨[], [], lv119, [(4, [17, 2, 1, 15, 16])]⟩
@[go_sem] theorem ann119_imm : ann119.imm = [] := rfl
@[go_sem] theorem ann119_frz : ann119.frz = [] := rfl
@[go_sem] theorem ann119_live : ann119.live = lv119 := rfl
@[go_sem] theorem ann119_head : ann119.head = [(4, [17, 2, 1, 15, 16])] := rfl
@[go_sem] def lv121 : List (Nat × List Nat) := [(9, [6, 7]), (8, [6, 7]), (7, [6, 5, 4, 3, 27]), (6, [6, 5, 4, 3, 8]), (5, [6, 5, 4, 3, 8]), (4, [6, 7]), (3, [6, 5, 4, 3, 22]), (2, [6, 7]), (1, [6, 5, 4, 3, 11]), (0, [6, 5, 4, 3])]
def ann121 : Ann := ⟨[3, 4, 5], [], lv121, []⟩
@[go_sem] theorem ann121_imm : ann121.imm = [3, 4, 5] := rfl
@[go_sem] theorem ann121_frz : ann121.frz = [] := rfl
@[go_sem] theorem ann121_live : ann121.live = lv121 := rfl
@[go_sem] theorem ann121_head : ann121.head = [] := rfl
@[go_sem] def lv125 : List (Nat × List Nat) := [(7, [4]), (6, [8, 0, 1, 7]), (5, [4]), (4, [5, 0, 1, 7, 8, 16]), (3, [5, 0, 1, 7, 8]), (2, [0, 1, 7, 8, 9]), (1, [8, 0, 1, 7]), (0, [0, 1])]
def ann125 : Ann := ⟨[], [], lv125, [(2, [8, 0, 1, 7])]⟩
@[go_sem] theorem ann125_imm : ann125.imm = [] := rfl
@[go_sem] theorem ann125_frz : ann125.frz = [] := rfl
@[go_sem] theorem ann125_live : ann125.live = lv125 := rfl
@[go_sem] theorem ann125_head : ann125.head = [(2, [8, 0, 1, 7])] := rfl
@[go_sem] def lv126 : List (Nat × List Nat) := [(4, [2, 3, 4]), (3, [3, 2]), (2, [2, 3, 4]), (1, [1, 7]), (0, [1])]
def ann126 : Ann := ⟨[1], [], lv126, []⟩
@[go_sem] theorem ann126_imm : ann126.imm = [1] := rfl
@[go_sem] theorem ann126_frz : ann126.frz = [] := rfl
@[go_sem] theorem ann126_live : ann126.live = lv126 := rfl
@[go_sem] theorem ann126_head : ann126.head = [] := rfl
@[go_sem] def lv127 : List (Nat × List Nat) := [(6, [6, 7]), (5, [6, 7]), (4, [6, 3, 2, 1, 52]), (3, [6, 3, 2, 1, 9, 8]), (2, [6, 7]), (1, [6, 3, 2, 1, 12]), (0, [6, 3, 2, 1])]
def ann127 : Ann := ⟨[3], [], lv127, []⟩
@[go_sem] theorem ann127_imm : ann127.imm = [3] := rfl
@[go_sem] theorem ann127_frz : ann127.frz = [] := rfl
@[go_sem] theorem ann127_live : ann127.live = lv127 := rfl
@[go_sem] theorem ann127_head : ann127.head = [] := rfl
@[go_sem] def lv128 : List (Nat × List Nat) := [(12, [6]), (10, [7, 2, 1, 3]), (11, [2, 1, 3, 7]), (9, [2, 3, 7, 1, 45]), (8, [7, 2, 1, 3]), (7, [2, 1, 3]), (6, [2, 3, 1, 31]), (5, [2, 3, 1]), (4, [2, 3, 1, 23]), (3, [2, 3, 1]), (2, [6]), (1, [2, 3, 1, 18]), (0, [2, 3, 1])]
def ann128 : Ann := ⟨[3], [], lv128, [(9, [7, 2, 1, 3])]⟩
@[go_sem] theorem ann128_imm : ann128.imm = [3] := rfl
@[go_sem] theorem ann128_frz : ann128.frz = [] := rfl
@[go_sem] theorem ann128_live : ann128.live = lv128 := rfl
@[go_sem] theorem ann128_head : ann128.head = [(9, [7, 2, 1, 3])] := rfl
def ann129 : Ann := ⟨[1], [], [(1, [2]), (0, [1])], []⟩
@[go_sem] theorem ann129_imm : ann129.imm = [1] := rfl
@[go_sem] theorem ann129_frz : ann129.frz = [] := rfl
@[go_sem] theorem ann129_live : ann129.live = [(1, [2]), (0, [1])] := rfl
@[go_sem] theorem ann129_head : ann129.head = [] := rfl
def ann130 : Ann := ⟨[1], [], [(1, [2]), (0, [1])], []⟩
@[go_sem] theorem ann130_imm : ann130.imm = [1] := rfl
@[go_sem] theorem ann130_frz : ann130.frz = [] := rfl
@[go_sem] theorem ann130_live : ann130.live = [(1, [2]), (0, [1])] := rfl
@[go_sem] theorem ann130_head : ann130.head = [] := rfl
def ann131 : Ann := ⟨[1], [], [(1, [2]), (0, [1])], []⟩
@[go_sem] theorem ann131_imm : ann131.imm = [1] := rfl
@[go_sem] theorem ann131_frz : ann131.frz = [] := rfl
@[go_sem] theorem ann131_live : ann131.live = [(1, [2]), (0, [1])] := rfl
@[go_sem] theorem ann131_head : ann131.head = [] := rfl
def ann132 : Ann := ⟨[], [], [(1, [4]), (0, [1, 0])], []⟩
@[go_sem] theorem ann132_imm : ann132.imm = [] := rfl
@[go_sem] theorem ann132_frz : ann132.frz = [] := rfl
@[go_sem] theorem ann132_live : ann132.live = [(1, [4]), (0, [1, 0])] := rfl
@[go_sem] theorem ann132_head : ann132.head = [] := rfl
def ann133 : Ann := ⟨[1], [], [(1, [2]), (0, [1])], []⟩
@[go_sem] theorem ann133_imm : ann133.imm = [1] := rfl
@[go_sem] theorem ann133_frz : ann133.frz = [] := rfl
@[go_sem] theorem ann133_live : ann133.live = [(1, [2]), (0, [1])] := rfl
@[go_sem] theorem ann133_head : ann133.head = [] := rfl
@[go_sem] def lv134 : List (Nat × List Nat) := [(16, [2]), (5, [2]), (15, [2]), (14, [12]), (13, [12, 4]), (12, [12, 4]), (11, [12, 4]), (10, [12, 4]), (9, [12, 4]), (8, [12, 4]), (7, [12, 4]), (6, [12, 4]), (4, [1, 4, 5]), (3, [1, 4, 5]), (2, [1, 4, 5]), (1, [1, 4]), (0, [1])]
def ann134 : Ann := ⟨[1], [], lv134, []⟩
@[go_sem] theorem ann134_imm : ann134.imm = [1] := rfl
@[go_sem] theorem ann134_frz : ann134.frz = [] := rfl
@[go_sem] theorem ann134_live : ann134.live = lv134 := rfl
@[go_sem] theorem ann134_head : ann134.head = [] := rfl
@[go_sem] def lv135 : List (Nat × List Nat) := [(16, [2]), (5, [2]), (15, [2]), (14, [12]), (13, [12, 4]), (12, [12, 4]), (11, [12, 4]), (10, [12, 4]), (9, [12, 4]), (8, [12, 4]), (7, [12, 4]), (6, [12, 4]), (4, [1, 4, 5]), (3, [1, 4, 5]), (2, [1, 4, 5]), (1, [1, 4]), (0, [1])]
def ann135 : Ann := ⟨[1], [], lv135, []⟩
@[go_sem] theorem ann135_imm : ann135.imm = [1] := rfl
@[go_sem] theorem ann135_frz : ann135.frz = [] := rfl
@[go_sem] theorem ann135_live : ann135.live = lv135 := rfl
@[go_sem] theorem ann135_head : ann135.head = [] := rfl
@[go_sem] def lv136 : List (Nat × List Nat) := [(23, [2, 3, 4]), (8, [2, 4]), (10, [2, 4]), (12, [2, 4]), (16, [2, 4]), (15, [2, 5, 4, 80]), (14, [2, 5, 4]), (18, [2, 4]), (20, [2, 4]), (22, [2, 4]), (6, [2, 4]), (21, [2, 4, 5, 149]), (19, [2, 5, 1, 4, 115]), (17, [2, 4, 1, 5, 90]), (13, [2, 5, 1, 4, 59]), (11, [2, 5, 1, 4, 46]), (9, [2, 1, 5, 4, 35]), (7, [2, 1, 5, 4, 22]), (5, [2, 1, 5, 4]), (4, [2, 3, 4]), (3, [2, 1, 4, 16]), (2, [2, 3, 4]), (1, [2, 1, 4, 8]), (0, [2, 1, 4])]
def ann136 : Ann := ⟨[1], [], lv136, []⟩
@[go_sem] theorem ann136_imm : ann136.imm = [1] := rfl
@[go_sem] theorem ann136_frz : ann136.frz = [] := rfl
@[go_sem] theorem ann136_live : ann136.live = lv136 := rfl
@[go_sem] theorem ann136_head : ann136.head = [] := rfl
@[go_sem] def lv138 : List (Nat × List Nat) := [(16, [6, 7]), (15, [43, 8, 2, 1, 41, 42]), (14, [8, 2, 1, 41, 42, 43]), (13, [6, 7]), (12, [2, 1, 41, 42, 43, 11, 8, 58]), (11, [2, 1, 41, 42, 43, 11, 8, 12]), (10, [2, 1, 41, 42, 43, 8, 10]), (9, [2, 1, 41, 42, 43, 8, 44]), (8, [43, 8, 2, 1, 41, 42]), (7, [8, 2, 1, 3]), (6, [2, 1, 3, 8, 34]), (5, [2, 1, 3, 8]), (4, [2, 1, 3, 8, 26]), (3, [2, 1, 3, 8]), (2, [6, 7]), (1, [2, 1, 3, 23]), (0, [2, 1, 3])]
def ann138 : Ann := ⟨[3], [], lv138, [(9, [43, 8, 2, 1, 41, 42])]⟩
@[go_sem] theorem ann138_imm : ann138.imm = [3] := rfl
@[go_sem] theorem ann138_frz : ann138.frz = [] := rfl
@[go_sem] theorem ann138_live : ann138.live = lv138 := rfl
@[go_sem] theorem ann138_head : ann138.head = [(9, [43, 8, 2, 1, 41, 42])] := rfl
@[go_sem] def lv139 : List (Nat × List Nat) := [(47, [2, 3, 4, 5]), (13, [2, 10]), (15, [2, 10]), (19, [2, 10]), (18, [2, 10, 9, 8, 90]), (17, [2, 10, 9, 8]), (24, [2, 10]), (26, [2, 10]), (25, [2, 10, 9, 8, 118]), (23, [2, 10, 9, 8, 109]), (22, [2, 10, 9, 8, 1]), (28, [2, 10]), (30, [2, 10]), (32, [2, 10]), (34, [2, 10]), (38, [2, 10]), (37, [2, 10, 9, 8, 166]), (36, [2, 10, 9, 8]), (40, [2, 10]), (42, [2, 10]), (44, [2, 10]), (46, [2, 3, 4, 5]), (45, [2, 8, 10, 193]), (43, [2, 10, 8, 58, 187]), (41, [2, 10, 9, 8, 58, 179]), (39, [2, 10, 8, 9, 58, 173]), (35, [2, 10, 9, 8, 58, 155]), (33, [2, 10, 9, 8, 58, 147]), (31, [2, 10, 9, 8, 58, 139]), (29, [2, 10, 9, 8, 58, 131]), (27, [2, 10, 8, 9, 58, 125]), (21, [2, 10, 9, 8, 1, 58, 97]), (20, [2, 10, 9, 8, 1, 58, 97]), (16, [2, 10, 9, 8, 1, 58, 75]), (14, [2, 10, 9, 8, 1, 58, 67]), (12, [2, 10, 9, 8, 1, 58, 59]), (11, [2, 10, 9, 8, 1, 58]), (10, [2, 10, 9, 8, 1]), (9, [2, 9, 8, 1]), (6, [2, 7, 6, 1]), (8, [2, 3, 4, 5]), (7, [2, 6, 1, 7, 43]), (5, [2, 6, 1, 7, 33]), (4, [2, 7, 6, 1]), (3, [2, 6, 1]), (2, [2, 1, 6, 28]), (1, [2, 1, 6]), (0, [2, 1])]
def ann139 : Ann := ⟨[1], [], lv139, [(5, [2, 7, 6, 1])]⟩
@[go_sem] theorem ann139_imm : ann139.imm = [1] := rfl
@[go_sem] theorem ann139_frz : ann139.frz = [] := rfl
@[go_sem] theorem ann139_live : ann139.live = lv139 := rfl
@[go_sem] theorem ann139_head : ann139.head = [(5, [2, 7, 6, 1])] := rfl
def ann140 : Ann := ⟨[2, 3], [], [(1, [4]), (0, [4, 3, 2])], []⟩
@[go_sem] theorem ann140_imm : ann140.imm = [2, 3] := rfl
@[go_sem] theorem ann140_frz : ann140.frz = [] := rfl
@[go_sem] theorem ann140_live : ann140.live = [(1, [4]), (0, [4, 3, 2])] := rfl
@[go_sem] theorem ann140_head : ann140.head = [] := rfl
def ann141 : Ann := ⟨[2], [], [(1, [4]), (0, [4, 1, 2])], []⟩
@[go_sem] theorem ann141_imm : ann141.imm = [2] := rfl
@[go_sem] theorem ann141_frz : ann141.frz = [] := rfl
@[go_sem] theorem ann141_live : ann141.live = [(1, [4]), (0, [4, 1, 2])] := rfl
@[go_sem] theorem ann141_head : ann141.head = [] := rfl
@[go_sem] def lv142 : List (Nat × List Nat) := [(6, [4]), (3, [5, 1, 0]), (5, [4]), (4, [5, 1, 0, 17]), (2, [5, 1, 0, 9]), (1, [5, 1, 0]), (0, [1, 0])]
def ann142 : Ann := ⟨[], [], lv142, [(2, [5, 1, 0])]⟩
@[go_sem] theorem ann142_imm : ann142.imm = [] := rfl
@[go_sem] theorem ann142_frz : ann142.frz = [] := rfl
@[go_sem] theorem ann142_live : ann142.live = lv142 := rfl
@[go_sem] theorem ann142_head : ann142.head = [(2, [5, 1, 0])] := rfl
def ann148 : Ann := ⟨[1], [], [(1, [2]), (0, [2, 1])], []⟩
@[go_sem] theorem ann148_imm : ann148.imm = [1] := rfl
@[go_sem] theorem ann148_frz : ann148.frz = [] := rfl
@[go_sem] theorem ann148_live : ann148.live = [(1, [2]), (0, [2, 1])] := rfl
@[go_sem] theorem ann148_head : ann148.head = [] := rfl
def ann149 : Ann := ⟨[], [], [(1, [2]), (0, [2, 0])], []⟩
@[go_sem] theorem ann149_imm : ann149.imm = [] := rfl
@[go_sem] theorem ann149_frz : ann149.frz = [] := rfl
@[go_sem] theorem ann149_live : ann149.live = [(1, [2]), (0, [2, 0])] := rfl
@[go_sem] theorem ann149_head : ann149.head = [] := rfl
def ann150 : Ann := ⟨[2, 3], [], [(1, [4]), (0, [3, 2])], []⟩
@[go_sem] theorem ann150_imm : ann150.imm = [2, 3] := rfl
@[go_sem] theorem ann150_frz : ann150.frz = [] := rfl
@[go_sem] theorem ann150_live : ann150.live = [(1, [4]), (0, [3, 2])] := rfl
@[go_sem] theorem ann150_head : ann150.head = [] := rfl
@[go_sem] def lv151 : List (Nat × List Nat) := [(17, [6]), (16, [72, 8, 2, 0, 70, 6, 71]), (15, [8, 2, 0, 70, 6, 71, 72]), (14, [8, 2, 0, 70, 6, 71, 72, 10]), (13, [8, 2, 0, 70, 6, 71, 72, 73]), (12, [72, 8, 2, 0, 70, 6, 71]), (11, [8, 2, 0, 6, 4]), (10, [8, 0, 6, 4, 2, 66]), (9, [8, 0, 6, 4, 2]), (8, [0, 6, 4, 2]), (7, [6]), (6, [6, 7]), (5, [6, 7, 0]), (4, [6, 0, 2, 4, 27]), (3, [6]), (2, [6]), (1, [6, 0, 2, 4, 15]), (0, [6, 0, 2, 4])]
def ann151 : Ann := ⟨[4], [], lv151, [(13, [72, 8, 2, 0, 70, 6, 71])]⟩
@[go_sem] theorem ann151_imm : ann151.imm = [4] := rfl
@[go_sem] theorem ann151_frz : ann151.frz = [] := rfl
@[go_sem] theorem ann151_live : ann151.live = lv151 := rfl
@[go_sem] theorem ann151_head : ann151.head = [(13, [72, 8, 2, 0, 70, 6, 71])] := rfl
@[go_sem] def lv154 : List (Nat × List Nat) := [(9, [2]), (2, [2]), (4, [2]), (6, [2]), (8, [2]), (7, [21]), (5, [1, 18]), (3, [1, 12]), (1, [1, 3]), (0, [1])]
def ann154 : Ann := ⟨[1], [], lv154, []⟩
@[go_sem] theorem ann154_imm : ann154.imm = [1] := rfl
@[go_sem] theorem ann154_frz : ann154.frz = [] := rfl
@[go_sem] theorem ann154_live : ann154.live = lv154 := rfl
@[go_sem] theorem ann154_head : ann154.head = [] := rfl
def ann155 : Ann := ⟨[], [], [(3, [2]), (2, [7, 3, 0, 5]), (1, [3, 0, 5, 4]), (0, [0])], []⟩
@[go_sem] theorem ann155_imm : ann155.imm = [] := rfl
@[go_sem] theorem ann155_frz : ann155.frz = [] := rfl
@[go_sem] theorem ann155_live : ann155.live = [(3, [2]), (2, [7, 3, 0, 5]), (1, [3, 0, 5, 4]), (0, [0])] := rfl
@[go_sem] theorem ann155_head : ann155.head = [] := rfl
def ann156 : Ann := ⟨[1], [], [(1, [2]), (0, [1])], []⟩
@[go_sem] theorem ann156_imm : ann156.imm = [1] := rfl
@[go_sem] theorem ann156_frz : ann156.frz = [] := rfl
@[go_sem] theorem ann156_live : ann156.live = [(1, [2]), (0, [1])] := rfl
@[go_sem] theorem ann156_head : ann156.head = [] := rfl
def ann157 : Ann := ⟨[1], [], [(2, [2]), (1, [4]), (0, [1])], []⟩
@[go_sem] theorem ann157_imm : ann157.imm = [1] := rfl
@[go_sem] theorem ann157_frz : ann157.frz = [] := rfl
@[go_sem] theorem ann157_live : ann157.live = [(2, [2]), (1, [4]), (0, [1])] := rfl
@[go_sem] theorem ann157_head : ann157.head = [] := rfl
def ann158 : Ann := ⟨[1], [], [(1, [2]), (0, [1])], []⟩
@[go_sem] theorem ann158_imm : ann158.imm = [1] := rfl
@[go_sem] theorem ann158_frz : ann158.frz = [] := rfl
@[go_sem] theorem ann158_live : ann158.live = [(1, [2]), (0, [1])] := rfl
@[go_sem] theorem ann158_head : ann158.head = [] := rfl
@[go_sem] def lv159 : List (Nat × List Nat) := [(6, [2]), (3, [3, 0]), (5, [2]), (4, [0, 3, 19]), (2, [0, 3, 7]), (1, [3, 0]), (0, [0])]
def ann159 : Ann := ⟨[], [], lv159, [(2, [3, 0])]⟩
@[go_sem] theorem ann159_imm : ann159.imm = [] := rfl
@[go_sem] theorem ann159_frz : ann159.frz = [] := rfl
@[go_sem] theorem ann159_live : ann159.live = lv159 := rfl
@[go_sem] theorem ann159_head : ann159.head = [(2, [3, 0])] := rfl
def ann160 : Ann := ⟨[], [], [(1, [2]), (0, [0])], []⟩
@[go_sem] theorem ann160_imm : ann160.imm = [] := rfl
@[go_sem] theorem ann160_frz : ann160.frz = [] := rfl
@[go_sem] theorem ann160_live : ann160.live = [(1, [2]), (0, [0])] := rfl
@[go_sem] theorem ann160_head : ann160.head = [] := rfl
@[go_sem] def lv161 : List (Nat × List Nat) := [(9, [2]), (8, [15, 13, 14]), (7, [2]), (6, [13, 14, 15, 21]), (5, [13, 14, 15, 4]), (4, [13, 14, 15, 16]), (3, [15, 13, 14]), (2, [2]), (1, [0, 11]), (0, [0])]
def ann161 : Ann := ⟨[], [], lv161, [(4, [15, 13, 14])]⟩
@[go_sem] theorem ann161_imm : ann161.imm = [] := rfl
@[go_sem] theorem ann161_frz : ann161.frz = [] := rfl
@[go_sem] theorem ann161_live : ann161.live = lv161 := rfl
@[go_sem] theorem ann161_head : ann161.head = [(4, [15, 13, 14])] := rfl
def ann162 : Ann := ⟨[1], [], [(1, [2]), (0, [1])], []⟩
@[go_sem] theorem ann162_imm : ann162.imm = [1] := rfl
@[go_sem] theorem ann162_frz : ann162.frz = [] := rfl
@[go_sem] theorem ann162_live : ann162.live = [(1, [2]), (0, [1])] := rfl
@[go_sem] theorem ann162_head : ann162.head = [] := rfl
@[go_sem] def lv163 : List (Nat × List Nat) := [(7, [2]), (6, [2]), (5, [16]), (4, [2]), (3, [0, 14]), (2, [2]), (1, [0, 8]), (0, [0])]
def ann163 : Ann := ⟨[], [], lv163, []⟩
@[go_sem] theorem ann163_imm : ann163.imm = [] := rfl
@[go_sem] theorem ann163_frz : ann163.frz = [] := rfl
@[go_sem] theorem ann163_live : ann163.live = lv163 := rfl
@[go_sem] theorem ann163_head : ann163.head = [] := rfl
@[go_sem] def lv164 : List (Nat × List Nat) := [(6, [2]), (3, [3, 0]), (5, [2]), (4, [0, 3, 15]), (2, [0, 3, 7]), (1, [3, 0]), (0, [0])]
def ann164 : Ann := ⟨[], [], lv164, [(2, [3, 0])]⟩
@[go_sem] theorem ann164_imm : ann164.imm = [] := rfl
@[go_sem] theorem ann164_frz : ann164.frz = [] := rfl
@[go_sem] theorem ann164_live : ann164.live = lv164 := rfl
@[go_sem] theorem ann164_head : ann164.head = [(2, [3, 0])] := rfl
@[go_sem] def lv165 : List (Nat × List Nat) := [(9, [2]), (5, [3, 0]), (8, [2]), (7, [5, 3, 0]), (6, [3, 0, 18]), (4, [3, 0, 12]), (3, [3, 0]), (2, [2]), (1, [0, 8]), (0, [0])]
def ann165 : Ann := ⟨[], [], lv165, [(4, [3, 0])]⟩
@[go_sem] theorem ann165_imm : ann165.imm = [] := rfl
@[go_sem] theorem ann165_frz : ann165.frz = [] := rfl
@[go_sem] theorem ann165_live : ann165.live = lv165 := rfl
@[go_sem] theorem ann165_head : ann165.head = [(4, [3, 0])] := rfl
def ann166 : Ann := ⟨[], [], [(1, [2]), (0, [0])], []⟩
@[go_sem] theorem ann166_imm : ann166.imm = [] := rfl
@[go_sem] theorem ann166_frz : ann166.frz = [] := rfl
@[go_sem] theorem ann166_live : ann166.live = [(1, [2]), (0, [0])] := rfl
@[go_sem] theorem ann166_head : ann166.head = [] := rfl
def ann167 : Ann := ⟨[1], [], [(1, [2]), (0, [1])], []⟩
@[go_sem] theorem ann167_imm : ann167.imm = [1] := rfl
@[go_sem] theorem ann167_frz : ann167.frz = [] := rfl
@[go_sem] theorem ann167_live : ann167.live = [(1, [2]), (0, [1])] := rfl
@[go_sem] theorem ann167_head : ann167.head = [] := rfl
def ann171 : Ann := ⟨[], [], [(1, [2]), (0, [0])], []⟩
@[go_sem] theorem ann171_imm : ann171.imm = [] := rfl
@[go_sem] theorem ann171_frz : ann171.frz = [] := rfl
@[go_sem] theorem ann171_live : ann171.live = [(1, [2]), (0, [0])] := rfl
@[go_sem] theorem ann171_head : ann171.head = [] := rfl
def ann172 : Ann := ⟨[], [], [(1, [2]), (0, [0])], []⟩
@[go_sem] theorem ann172_imm : ann172.imm = [] := rfl
@[go_sem] theorem ann172_frz : ann172.frz = [] := rfl
@[go_sem] theorem ann172_live : ann172.live = [(1, [2]), (0, [0])] := rfl
@[go_sem] theorem ann172_head : ann172.head = [] := rfl
@[go_sem] def lv173 : List (Nat × List Nat) := [(11, [2]), (2, [2]), (4, [2]), (6, [2]), (8, [2]), (10, [2]), (9, [27]), (7, [0, 24]), (5, [0, 17]), (3, [0, 10]), (1, [0, 3]), (0, [0])]
def ann173 : Ann := ⟨[], [], lv173, []⟩
@[go_sem] theorem ann173_imm : ann173.imm = [] := rfl
@[go_sem] theorem ann173_frz : ann173.frz = [] := rfl
@[go_sem] theorem ann173_live : ann173.live = lv173 := rfl
@[go_sem] theorem ann173_head : ann173.head = [] := rfl
@[go_sem] def lv188 : List (Nat × List Nat) := [(9, [27, 2, 1, 25, 26]), (8, [2, 1, 25, 26, 27]), (7, [2, 1, 25, 26, 27, 7]), (6, [2, 1, 25, 26, 27, 28]), (5, [27, 2, 1, 25, 26]), (4, [2, 1, 3]), (3, [2, 3, 1, 21]), (2, [2, 3, 1]), (1, [2, 3, 1, 15]), (0, [2, 3, 1])]
def ann188 : Ann := ⟨[3], [], lv188, [(6, [27, 2, 1, 25, 26])]⟩
@[go_sem] theorem ann188_imm : ann188.imm = [3] := rfl
@[go_sem] theorem ann188_frz : ann188.frz = [] := rfl
@[go_sem] theorem ann188_live : ann188.live = lv188 := rfl
@[go_sem] theorem ann188_head : ann188.head = [(6, [27, 2, 1, 25, 26])] := rfl
@[go_sem] def lv189 : List (Nat × List Nat) := [(3, []), (2, [4, 26]), (1, [4, 2, 3, 7, 5]), (0, [4, 2, 3, 5, 1])]
def ann189 : Ann := ⟨[5], [], lv189, []⟩
@[go_sem] theorem ann189_imm : ann189.imm = [5] := rfl
@[go_sem] theorem ann189_frz : ann189.frz = [] := rfl
@[go_sem] theorem ann189_live : ann189.live = lv189 := rfl
@[go_sem] theorem ann189_head : ann189.head = [] := rfl
def ann192 : Ann := ⟨[1], [], [(3, [2, 3]), (2, [5, 4]), (1, [5, 4, 1]), (0, [1])], []⟩
@[go_sem] theorem ann192_imm : ann192.imm = [1] := rfl
@[go_sem] theorem ann192_frz : ann192.frz = [] := rfl
@[go_sem] theorem ann192_live : ann192.live = [(3, [2, 3]), (2, [5, 4]), (1, [5, 4, 1]), (0, [1])] := rfl
@[go_sem] theorem ann192_head : ann192.head = [] := rfl
def ann193 : Ann := ⟨[], [], [(1, [2]), (0, [0])], []⟩
@[go_sem] theorem ann193_imm : ann193.imm = [] := rfl
@[go_sem] theorem ann193_frz : ann193.frz = [] := rfl
@[go_sem] theorem ann193_live : ann193.live = [(1, [2]), (0, [0])] := rfl
@[go_sem] theorem ann193_head : ann193.head = [] := rfl
def ann194 : Ann := ⟨[2], [], [(3, [4, 5]), (2, [4, 5]), (1, [4, 2, 12]), (0, [4, 2, 1])], []⟩
@[go_sem] theorem ann194_imm : ann194.imm = [2] := rfl
@[go_sem] theorem ann194_frz : ann194.frz = [] := rfl
@[go_sem] theorem ann194_live : ann194.live = [(3, [4, 5]), (2, [4, 5]), (1, [4, 2, 12]), (0, [4, 2, 1])] := rfl
@[go_sem] theorem ann194_head : ann194.head = [] := rfl
def ann195 : Ann := ⟨[2, 3], [], [(1, [4]), (0, [4, 3, 2])], []⟩
@[go_sem] theorem ann195_imm : ann195.imm = [2, 3] := rfl
@[go_sem] theorem ann195_frz : ann195.frz = [] := rfl
@[go_sem] theorem ann195_live : ann195.live = [(1, [4]), (0, [4, 3, 2])] := rfl
@[go_sem] theorem ann195_head : ann195.head = [] := rfl
@[go_sem] def lv196 : List (Nat × List Nat) := [(21, [6, 7]), (20, [6, 74, 8, 4, 5, 3, 72, 73]), (19, [6, 8, 4, 5, 3, 72, 73, 74]), (18, [6, 7]), (17, [6, 13, 8, 4, 5, 3, 72, 73, 74, 12, 90]), (16, [6, 13, 8, 4, 5, 3, 72, 73, 74, 12]), (15, [6, 8, 4, 5, 3, 72, 73, 74, 10, 11]), (14, [6, 8, 4, 5, 3, 72, 73, 74, 75]), (13, [6, 74, 8, 4, 5, 3, 72, 73]), (12, [6, 7]), (11, [6, 9, 8, 4, 5, 3, 68]), (10, [6, 9, 8, 4, 5, 3]), (9, [6, 8, 4, 5, 3, 56]), (8, [6, 7]), (7, [6, 9, 8, 4, 5, 3, 51]), (6, [6, 9, 8, 4, 5, 3]), (5, [6, 8, 4, 5, 3, 39]), (4, [6, 8, 4, 5, 3]), (3, [6, 8, 4, 5, 3]), (2, [6, 7]), (1, [6, 5, 4, 3, 16]), (0, [6, 5, 4, 3])]
def ann196 : Ann := ⟨[3, 4, 5], [], lv196, [(14, [6, 74, 8, 4, 5, 3, 72, 73])]⟩
@[go_sem] theorem ann196_imm : ann196.imm = [3, 4, 5] := rfl
@[go_sem] theorem ann196_frz : ann196.frz = [] := rfl
@[go_sem] theorem ann196_live : ann196.live = lv196 := rfl
@[go_sem] theorem ann196_head : ann196.head = [(14, [6, 74, 8, 4, 5, 3, 72, 73])] := rfl
@[go_sem] def lv197 : List (Nat × List Nat) := [(19, [2]), (18, [2]), (17, [1, 120]), (16, [2]), (15, [1, 99]), (8, [2]), (7, [1, 50]), (11, [2]), (10, [1, 72]), (14, [2]), (13, [1, 78]), (5, [2]), (4, [1, 35]), (12, [1, 73]), (9, [1, 22, 51]), (6, [1, 22, 36]), (3, [1, 22]), (2, [2]), (1, [1, 20]), (0, [1])]
def ann197 : Ann := ⟨[1], [], lv197, []⟩
@[go_sem] theorem ann197_imm : ann197.imm = [1] := rfl
@[go_sem] theorem ann197_frz : ann197.frz = [] := rfl
@[go_sem] theorem ann197_live : ann197.live = lv197 := rfl
@[go_sem] theorem ann197_head : ann197.head = [] := rfl
@[go_sem] def lv198 : List (Nat × List Nat) := [(10, [2]), (9, [2]), (8, [4]), (7, [4, 3]), (6, [4, 3]), (5, [4, 3]), (4, [4, 3]), (3, [4, 3]), (2, [4, 3]), (1, [3]), (0, [0])]
def ann198 : Ann := ⟨[], [], lv198, []⟩
@[go_sem] theorem ann198_imm : ann198.imm = [] := rfl
@[go_sem] theorem ann198_frz : ann198.frz = [] := rfl
@[go_sem] theorem ann198_live : ann198.live = lv198 := rfl
@[go_sem] theorem ann198_head : ann198.head = [] := rfl
@[go_sem] def lv199 : List (Nat × List Nat) := [(6, [2]), (4, [4, 1, 3]), (5, [1, 3, 4]), (3, [1, 4, 3, 9]), (2, [4, 1, 3]), (1, [1, 3]), (0, [1])]
def ann199 : Ann := ⟨[1], [], lv199, [(3, [4, 1, 3])]⟩
@[go_sem] theorem ann199_imm : ann199.imm = [1] := rfl
@[go_sem] theorem ann199_frz : ann199.frz = [] := rfl
@[go_sem] theorem ann199_live : ann199.live = lv199 := rfl
@[go_sem] theorem ann199_head : ann199.head = [(3, [4, 1, 3])] := rfl
@[go_sem] def lv200 : List (Nat × List Nat) := [(7, [6]), (5, [7, 4, 2, 0]), (6, [4, 2, 0, 7]), (4, [4, 2, 7, 0, 24]), (3, [7, 4, 2, 0]), (2, [4, 2, 0]), (1, [4, 2, 0]), (0, [4, 2, 0])]
def ann200 : Ann := ⟨[4], [], lv200, [(4, [7, 4, 2, 0])]⟩
@[go_sem] theorem ann200_imm : ann200.imm = [4] := rfl
@[go_sem] theorem ann200_frz : ann200.frz = [] := rfl
@[go_sem] theorem ann200_live : ann200.live = lv200 := rfl
@[go_sem] theorem ann200_head : ann200.head = [(4, [7, 4, 2, 0])] := rfl
@[go_sem] def lv201 : List (Nat × List Nat) := [(7, [6]), (5, [7, 4, 2, 0]), (6, [4, 2, 0, 7]), (4, [4, 2, 7, 0, 27]), (3, [7, 4, 2, 0]), (2, [6]), (1, [2, 4, 0, 16]), (0, [2, 4, 0])]
def ann201 : Ann := ⟨[4], [], lv201, [(4, [7, 4, 2, 0])]⟩
@[go_sem] theorem ann201_imm : ann201.imm = [4] := rfl
@[go_sem] theorem ann201_frz : ann201.frz = [] := rfl
@[go_sem] theorem ann201_live : ann201.live = lv201 := rfl
@[go_sem] theorem ann201_head : ann201.head = [(4, [7, 4, 2, 0])] := rfl
@[go_sem] def lv202 : List (Nat × List Nat) := [(7, [4]), (6, [8, 0, 1, 7]), (5, [4]), (4, [5, 0, 1, 7, 8, 16]), (3, [5, 0, 1, 7, 8]), (2, [0, 1, 7, 8, 9]), (1, [8, 0, 1, 7]), (0, [0, 1])]
def ann202 : Ann := ⟨[], [], lv202, [(2, [8, 0, 1, 7])]⟩
@[go_sem] theorem ann202_imm : ann202.imm = [] := rfl
@[go_sem] theorem ann202_frz : ann202.frz = [] := rfl
@[go_sem] theorem ann202_live : ann202.live = lv202 := rfl
@[go_sem] theorem ann202_head : ann202.head = [(2, [8, 0, 1, 7])] := rfl
@[go_sem] def lv203 : List (Nat × List Nat) := [(18, [2, 3, 4]), (17, [2, 3, 4]), (16, [2, 11, 10]), (15, [2, 9, 8, 1, 45]), (14, [2, 9, 8, 1, 5]), (13, [2, 22, 5, 20, 1, 21]), (12, [2, 3, 4]), (11, [2, 5, 20, 1, 21, 22, 29]), (10, [2, 5, 20, 1, 21, 22, 7]), (9, [2, 5, 20, 1, 21, 22, 23]), (8, [2, 22, 5, 20, 1, 21]), (7, [2, 5, 1]), (6, [2, 1, 5, 14]), (5, [2, 1, 5, 14, 13]), (4, [2, 1, 5, 14, 13]), (3, [2, 1, 5, 14, 13]), (2, [2, 1, 5, 13]), (1, [2, 1, 5]), (0, [2, 1])]
def ann203 : Ann := ⟨[1], [], lv203, [(9, [2, 22, 5, 20, 1, 21])]⟩
@[go_sem] theorem ann203_imm : ann203.imm = [1] := rfl
@[go_sem] theorem ann203_frz : ann203.frz = [] := rfl
@[go_sem] theorem ann203_live : ann203.live = lv203 := rfl
@[go_sem] theorem ann203_head : ann203.head = [(9, [2, 22, 5, 20, 1, 21])] := rfl
@[go_sem] def lv204 : List (Nat × List Nat) := [(6, [4, 5]), (2, [4, 5]), (5, [4, 5]), (4, [4, 7, 3, 6]), (3, [4, 3, 2, 20]), (1, [4, 3, 2, 8]), (0, [4, 3, 2])]
def ann204 : Ann := ⟨[2, 3], [], lv204, []⟩
@[go_sem] theorem ann204_imm : ann204.imm = [2, 3] := rfl
@[go_sem] theorem ann204_frz : ann204.frz = [] := rfl
@[go_sem] theorem ann204_live : ann204.live = lv204 := rfl
@[go_sem] theorem ann204_head : ann204.head = [] := rfl
@[go_sem] def lv205 : List (Nat × List Nat) := [(6, [4, 5]), (2, [4, 5]), (5, [4, 5]), (4, [4, 7, 6, 3]), (3, [4, 3, 2, 21]), (1, [4, 3, 2, 8]), (0, [4, 3, 2])]
def ann205 : Ann := ⟨[2, 3], [], lv205, []⟩
@[go_sem] theorem ann205_imm : ann205.imm = [2, 3] := rfl
@[go_sem] theorem ann205_frz : ann205.frz = [] := rfl
@[go_sem] theorem ann205_live : ann205.live = lv205 := rfl
@[go_sem] theorem ann205_head : ann205.head = [] := rfl
@[go_sem] def lv206 : List (Nat × List Nat) := [(4, [4, 5]), (3, [4, 2, 3, 6]), (2, [4, 5]), (1, [4, 2, 3, 14]), (0, [4, 2, 3])]
def ann206 : Ann := ⟨[2, 3], [], lv206, []⟩
@[go_sem] theorem ann206_imm : ann206.imm = [2, 3] := rfl
@[go_sem] theorem ann206_frz : ann206.frz = [] := rfl
@[go_sem] theorem ann206_live : ann206.live = lv206 := rfl
@[go_sem] theorem ann206_head : ann206.head = [] := rfl
@[go_sem] def lv207 : List (Nat × List Nat) := [(5, [4, 5]), (2, [4, 5]), (4, [4, 5]), (3, [4, 2, 3, 15]), (1, [4, 2, 3, 6]), (0, [4, 2, 3])]
def ann207 : Ann := ⟨[2, 3], [], lv207, []⟩
@[go_sem] theorem ann207_imm : ann207.imm = [2, 3] := rfl
@[go_sem] theorem ann207_frz : ann207.frz = [] := rfl
@[go_sem] theorem ann207_live : ann207.live = lv207 := rfl
@[go_sem] theorem ann207_head : ann207.head = [] := rfl
def ann208 : Ann := ⟨[], [], [(1, [4]), (0, [1, 0])], []⟩
@[go_sem] theorem ann208_imm : ann208.imm = [] := rfl
@[go_sem] theorem ann208_frz : ann208.frz = [] := rfl
@[go_sem] theorem ann208_live : ann208.live = [(1, [4]), (0, [1, 0])] := rfl
@[go_sem] theorem ann208_head : ann208.head = [] := rfl
@[go_sem] def lv209 : List (Nat × List Nat) := [(7, [4]), (6, [8, 0, 1, 7]), (5, [4]), (4, [5, 0, 1, 7, 8, 16]), (3, [5, 0, 1, 7, 8]), (2, [0, 1, 7, 8, 9]), (1, [8, 0, 1, 7]), (0, [0, 1])]
def ann209 : Ann := ⟨[], [], lv209, [(2, [8, 0, 1, 7])]⟩
@[go_sem] theorem ann209_imm : ann209.imm = [] := rfl
@[go_sem] theorem ann209_frz : ann209.frz = [] := rfl
@[go_sem] theorem ann209_live : ann209.live = lv209 := rfl
@[go_sem] theorem ann209_head : ann209.head = [(2, [8, 0, 1, 7])] := rfl
def ann210 : Ann := ⟨[1], [], [(4, [2]), (3, [1, 3]), (2, [2]), (1, [1, 34]), (0, [1])], []⟩
@[go_sem] theorem ann210_imm : ann210.imm = [1] := rfl
@[go_sem] theorem ann210_frz : ann210.frz = [] := rfl
@[go_sem] theorem ann210_live : ann210.live = [(4, [2]), (3, [1, 3]), (2, [2]), (1, [1, 34]), (0, [1])] := rfl
@[go_sem] theorem ann210_head : ann210.head = [] := rfl
@[go_sem] def lv211 : List (Nat × List Nat) := [(10, [2]), (9, [2]), (8, [4]), (7, [4, 3]), (6, [4, 3]), (5, [4, 3]), (4, [4, 3]), (3, [4, 3]), (2, [4, 3]), (1, [3]), (0, [0])]
def ann211 : Ann := ⟨[], [], lv211, []⟩
@[go_sem] theorem ann211_imm : ann211.imm = [] := rfl
@[go_sem] theorem ann211_frz : ann211.frz = [] := rfl
@[go_sem] theorem ann211_live : ann211.live = lv211 := rfl
@[go_sem] theorem ann211_head : ann211.head = [] := rfl
def ann212 : Ann := ⟨[], [], [(3, [2]), (2, [2]), (1, [2, 0, 8]), (0, [2, 0])], []⟩
@[go_sem] theorem ann212_imm : ann212.imm = [] := rfl
@[go_sem] theorem ann212_frz : ann212.frz = [] := rfl
@[go_sem] theorem ann212_live : ann212.live = [(3, [2]), (2, [2]), (1, [2, 0, 8]), (0, [2, 0])] := rfl
@[go_sem] theorem ann212_head : ann212.head = [] := rfl
def ann213 : Ann := ⟨[], [], [(3, [2]), (2, [2]), (1, [0, 4]), (0, [0])], []⟩
@[go_sem] theorem ann213_imm : ann213.imm = [] := rfl
@[go_sem] theorem ann213_frz : ann213.frz = [] := rfl
@[go_sem] theorem ann213_live : ann213.live = [(3, [2]), (2, [2]), (1, [0, 4]), (0, [0])] := rfl
@[go_sem] theorem ann213_head : ann213.head = [] := rfl
@[go_sem] def lv214 : List (Nat × List Nat) := [(6, [2]), (5, [2, 5, 4]), (4, [2, 4, 3]), (3, [2, 3]), (2, [2, 3, 6]), (1, [2, 3, 0]), (0, [2, 0])]
def ann214 : Ann := ⟨[], [], lv214, []⟩
@[go_sem] theorem ann214_imm : ann214.imm = [] := rfl
@[go_sem] theorem ann214_frz : ann214.frz = [] := rfl
@[go_sem] theorem ann214_live : ann214.live = lv214 := rfl
@[go_sem] theorem ann214_head : ann214.head = [] := rfl
def ann215 : Ann := ⟨[], [], [(3, [2]), (2, [2]), (1, [0, 4]), (0, [0])], []⟩
@[go_sem] theorem ann215_imm : ann215.imm = [] := rfl
@[go_sem] theorem ann215_frz : ann215.frz = [] := rfl
@[go_sem] theorem ann215_live : ann215.live = [(3, [2]), (2, [2]), (1, [0, 4]), (0, [0])] := rfl
@[go_sem] theorem ann215_head : ann215.head = [] := rfl
@[go_sem] def lv216 : List (Nat × List Nat) := [(13, [8]), (11, [10, 9, 4, 3, 2, 5, 8]), (12, [9, 4, 3, 2, 5, 8, 10]), (10, [9, 4, 3, 2, 5, 8, 10, 37]), (9, [10, 9, 4, 3, 2, 5, 8]), (8, [9, 4, 3, 2, 5, 8]), (7, [9, 4, 3, 2, 5, 8]), (6, [8]), (5, [8]), (4, [8, 4, 25]), (3, [8]), (2, [8, 3, 2, 5, 4, 17]), (1, [8, 3, 2, 5, 4, 13]), (0, [8, 3, 2, 5, 4])]
def ann216 : Ann := ⟨[4, 5], [], lv216, [(10, [10, 9, 4, 3, 2, 5, 8])]⟩
@[go_sem] theorem ann216_imm : ann216.imm = [4, 5] := rfl
@[go_sem] theorem ann216_frz : ann216.frz = [] := rfl
@[go_sem] theorem ann216_live : ann216.live = lv216 := rfl
@[go_sem] theorem ann216_head : ann216.head = [(10, [10, 9, 4, 3, 2, 5, 8])] := rfl
@[go_sem] def lv217 : List (Nat × List Nat) := [(9, [6]), (7, [8, 7, 3, 2, 1, 6]), (8, [7, 3, 2, 1, 6, 8]), (6, [7, 3, 2, 1, 6, 8, 27]), (5, [8, 7, 3, 2, 1, 6]), (4, [7, 3, 2, 1, 6]), (3, [7, 3, 2, 1, 6]), (2, [7, 3, 2, 1, 6]), (1, [7, 3, 2, 1, 6]), (0, [3, 2, 1, 6])]
def ann217 : Ann := ⟨[3], [], lv217, [(6, [8, 7, 3, 2, 1, 6])]⟩
@[go_sem] theorem ann217_imm : ann217.imm = [3] := rfl
@[go_sem] theorem ann217_frz : ann217.frz = [] := rfl
@[go_sem] theorem ann217_live : ann217.live = lv217 := rfl
@[go_sem] theorem ann217_head : ann217.head = [(6, [8, 7, 3, 2, 1, 6])] := rfl
@[go_sem] def lv219 : List (Nat × List Nat) := [(7, [2]), (6, [9, 3, 7, 2, 8]), (5, [3, 7, 2, 8, 9]), (4, [3, 7, 2, 8, 9, 5]), (3, [3, 7, 2, 8, 9, 10]), (2, [9, 3, 7, 2, 8]), (1, [3, 2, 1]), (0, [2, 1])]
def ann219 : Ann := ⟨[1], [], lv219, [(3, [9, 3, 7, 2, 8])]⟩
@[go_sem] theorem ann219_imm : ann219.imm = [1] := rfl
@[go_sem] theorem ann219_frz : ann219.frz = [] := rfl
@[go_sem] theorem ann219_live : ann219.live = lv219 := rfl
@[go_sem] theorem ann219_head : ann219.head = [(3, [9, 3, 7, 2, 8])] := rfl
@[go_sem] def lv220 : List (Nat × List Nat) := [(3, [6]), (2, [6]), (1, [6, 3, 4, 17]), (0, [6, 3, 4, 2, 1])]
def ann220 : Ann := ⟨[4], [], lv220, []⟩
@[go_sem] theorem ann220_imm : ann220.imm = [4] := rfl
@[go_sem] theorem ann220_frz : ann220.frz = [] := rfl
@[go_sem] theorem ann220_live : ann220.live = lv220 := rfl
@[go_sem] theorem ann220_head : ann220.head = [] := rfl
def ann222 : Ann := ⟨[], [], [(1, [4, 5, 6]), (0, [1, 0])], []⟩
@[go_sem] theorem ann222_imm : ann222.imm = [] := rfl
@[go_sem] theorem ann222_frz : ann222.frz = [] := rfl
@[go_sem] theorem ann222_live : ann222.live = [(1, [4, 5, 6]), (0, [1, 0])] := rfl
@[go_sem] theorem ann222_head : ann222.head = [] := rfl
@[go_sem] def lv223 : List (Nat × List Nat) := [(12, [2, 3]), (11, [2, 3]), (10, [6, 41]), (9, [6, 7]), (8, [23, 21, 0, 22]), (7, [2, 3]), (6, [21, 0, 22, 23, 29]), (5, [21, 0, 22, 23, 5]), (4, [21, 0, 22, 23, 24]), (3, [23, 21, 0, 22]), (2, [2, 3]), (1, [0, 19]), (0, [0])]
def ann223 : Ann := ⟨[], [], lv223, [(4, [23, 21, 0, 22])]⟩
@[go_sem] theorem ann223_imm : ann223.imm = [] := rfl
@[go_sem] theorem ann223_frz : ann223.frz = [] := rfl
@[go_sem] theorem ann223_live : ann223.live = lv223 := rfl
@[go_sem] theorem ann223_head : ann223.head = [(4, [23, 21, 0, 22])] := rfl
@[go_sem] def lv224 : List (Nat × List Nat) := [(12, [6, 7]), (11, [34, 8, 2, 1, 32, 33]), (10, [8, 2, 1, 32, 33, 34]), (9, [6, 7]), (8, [2, 1, 32, 33, 34, 11, 8, 49]), (7, [2, 1, 32, 33, 34, 11, 8, 12]), (6, [2, 1, 32, 33, 34, 8, 10]), (5, [2, 1, 32, 33, 34, 8, 35]), (4, [34, 8, 2, 1, 32, 33]), (3, [8, 2, 1, 3]), (2, [6, 7]), (1, [2, 1, 3, 30]), (0, [2, 1, 3])]
def ann224 : Ann := ⟨[3], [], lv224, [(5, [34, 8, 2, 1, 32, 33])]⟩
@[go_sem] theorem ann224_imm : ann224.imm = [3] := rfl
@[go_sem] theorem ann224_frz : ann224.frz = [] := rfl
@[go_sem] theorem ann224_live : ann224.live = lv224 := rfl
@[go_sem] theorem ann224_head : ann224.head = [(5, [34, 8, 2, 1, 32, 33])] := rfl
@[go_sem] def lv225 : List (Nat × List Nat) := [(6, [2]), (3, [3, 0]), (5, [2]), (4, [0, 3, 20]), (2, [0, 3, 7]), (1, [3, 0]), (0, [0])]
def ann225 : Ann := ⟨[], [], lv225, [(2, [3, 0])]⟩
@[go_sem] theorem ann225_imm : ann225.imm = [] := rfl
@[go_sem] theorem ann225_frz : ann225.frz = [] := rfl
@[go_sem] theorem ann225_live : ann225.live = lv225 := rfl
@[go_sem] theorem ann225_head : ann225.head = [(2, [3, 0])] := rfl
@[go_sem] def lv226 : List (Nat × List Nat) := [(6, [2]), (3, [3, 0]), (5, [2]), (4, [0, 3, 19]), (2, [0, 3, 7]), (1, [3, 0]), (0, [0])]
def ann226 : Ann := ⟨[], [], lv226, [(2, [3, 0])]⟩
@[go_sem] theorem ann226_imm : ann226.imm = [] := rfl
@[go_sem] theorem ann226_frz : ann226.frz = [] := rfl
@[go_sem] theorem ann226_live : ann226.live = lv226 := rfl
@[go_sem] theorem ann226_head : ann226.head = [(2, [3, 0])] := rfl
@[go_sem] def lv227 : List (Nat × List Nat) := [(12, [2, 3]), (11, [2, 3]), (10, [4, 40]), (6, [5, 0, 4]), (9, [0, 4, 5]), (8, [2, 3]), (7, [0, 5, 4, 29]), (5, [0, 5, 4, 22]), (4, [5, 0, 4]), (3, [0, 4]), (2, [2, 3]), (1, [0, 18]), (0, [0])]
def ann227 : Ann := ⟨[], [], lv227, [(5, [5, 0, 4])]⟩
@[go_sem] theorem ann227_imm : ann227.imm = [] := rfl
@[go_sem] theorem ann227_frz : ann227.frz = [] := rfl
@[go_sem] theorem ann227_live : ann227.live = lv227 := rfl
@[go_sem] theorem ann227_head : ann227.head = [(5, [5, 0, 4])] := rfl
@[go_sem] def lv228 : List (Nat × List Nat) := [(8, [6]), (6, [7, 2, 1, 3]), (7, [2, 1, 3, 7]), (5, [2, 3, 7, 1, 36]), (4, [7, 2, 1, 3]), (3, [2, 1, 3]), (2, [6]), (1, [2, 3, 1, 25]), (0, [2, 3, 1])]
def ann228 : Ann := ⟨[3], [], lv228, [(5, [7, 2, 1, 3])]⟩
@[go_sem] theorem ann228_imm : ann228.imm = [3] := rfl
@[go_sem] theorem ann228_frz : ann228.frz = [] := rfl
@[go_sem] theorem ann228_live : ann228.live = lv228 := rfl
@[go_sem] theorem ann228_head : ann228.head = [(5, [7, 2, 1, 3])] := rfl
@[go_sem] def lv230 : List (Nat × List Nat) := [(6, [2]), (3, [3, 0]), (5, [2]), (4, [0, 3, 14]), (2, [0, 3, 7]), (1, [3, 0]), (0, [0])]
def ann230 : Ann := ⟨[], [], lv230, [(2, [3, 0])]⟩
@[go_sem] theorem ann230_imm : ann230.imm = [] := rfl
@[go_sem] theorem ann230_frz : ann230.frz = [] := rfl
@[go_sem] theorem ann230_live : ann230.live = lv230 := rfl
@[go_sem] theorem ann230_head : ann230.head = [(2, [3, 0])] := rfl
@[go_sem] def lv240 : List (Nat × List Nat) := [(11, [37, 3, 2, 5, 4, 35, 36]), (10, [3, 2, 5, 4, 35, 36, 37]), (9, [3, 2, 5, 4, 35, 36, 37, 9, 8]), (8, [3, 2, 5, 4, 35, 36, 37, 38]), (7, [37, 3, 2, 5, 4, 35, 36]), (6, [3, 2, 5, 4]), (5, [3, 2, 5, 4, 28]), (4, [3, 2, 5, 4]), (3, [3, 2, 5, 4, 20]), (2, [3, 2, 5, 4]), (1, [3, 2, 5, 4, 12]), (0, [3, 2, 5, 4])]
def ann240 : Ann := ⟨[4, 5], [], lv240, [(8, [37, 3, 2, 5, 4, 35, 36])]⟩
@[go_sem] theorem ann240_imm : ann240.imm = [4, 5] := rfl
@[go_sem] theorem ann240_frz : ann240.frz = [] := rfl
@[go_sem] theorem ann240_live : ann240.live = lv240 := rfl
@[go_sem] theorem ann240_head : ann240.head = [(8, [37, 3, 2, 5, 4, 35, 36])] := rfl
@[go_sem] def lv241 : List (Nat × List Nat) := [(7, [16, 4, 2, 14, 15]), (6, [4, 2, 14, 15, 16]), (5, [4, 2, 14, 15, 16, 8, 23]), (4, [4, 2, 14, 15, 16, 8]), (3, [4, 2, 14, 15, 16, 17]), (2, [16, 4, 2, 14, 15]), (1, [4, 2, 5]), (0, [4, 2, 3])]
def ann241 : Ann := ⟨[3, 4], [], lv241, [(3, [16, 4, 2, 14, 15])]⟩
@[go_sem] theorem ann241_imm : ann241.imm = [3, 4] := rfl
@[go_sem] theorem ann241_frz : ann241.frz = [] := rfl
@[go_sem] theorem ann241_live : ann241.live = lv241 := rfl
@[go_sem] theorem ann241_head : ann241.head = [(3, [16, 4, 2, 14, 15])] := rfl
def ann243 : Ann := ⟨[4], [], [(2, []), (1, [4, 0, 2, 8]), (0, [4, 0, 2])], []⟩
@[go_sem] theorem ann243_imm : ann243.imm = [4] := rfl
@[go_sem] theorem ann243_frz : ann243.frz = [] := rfl
@[go_sem] theorem ann243_live : ann243.live = [(2, []), (1, [4, 0, 2, 8]), (0, [4, 0, 2])] := rfl
@[go_sem] theorem ann243_head : ann243.head = [] := rfl
def ann245 : Ann := ⟨[3, 4], [], [(1, [5, 6]), (0, [5, 4, 2, 3])], []⟩
@[go_sem] theorem ann245_imm : ann245.imm = [3, 4] := rfl
@[go_sem] theorem ann245_frz : ann245.frz = [] := rfl
@[go_sem] theorem ann245_live : ann245.live = [(1, [5, 6]), (0, [5, 4, 2, 3])] := rfl
@[go_sem] theorem ann245_head : ann245.head = [] := rfl
@[go_sem] def lv246 : List (Nat × List Nat) := [(3, [5, 6]), (2, [5, 0]), (1, [5, 2, 0, 10]), (0, [5, 2, 0, 4])]
def ann246 : Ann := ⟨[4], [], lv246, []⟩
@[go_sem] theorem ann246_imm : ann246.imm = [4] := rfl
@[go_sem] theorem ann246_frz : ann246.frz = [] := rfl
@[go_sem] theorem ann246_live : ann246.live = lv246 := rfl
@[go_sem] theorem ann246_head : ann246.head = [] := rfl
@[go_sem] def lv247 : List (Nat × List Nat) := [(14, [6]), (3, [6, 3]), (6, [6, 3]), (8, [6, 3]), (11, [6, 3]), (10, [6, 3, 2]), (13, [6, 3]), (12, [6, 3, 2, 42]), (9, [6, 3, 2, 8, 30]), (7, [6, 3, 2, 8, 22]), (5, [6, 3, 2, 8, 15]), (4, [6, 3, 2, 8, 15]), (2, [6, 3, 2, 8, 9]), (1, [6, 3, 2, 8]), (0, [6, 3, 2, 4])]
def ann247 : Ann := ⟨[4], [], lv247, []⟩
@[go_sem] theorem ann247_imm : ann247.imm = [4] := rfl
@[go_sem] theorem ann247_frz : ann247.frz = [] := rfl
@[go_sem] theorem ann247_live : ann247.live = lv247 := rfl
@[go_sem] theorem ann247_head : ann247.head = [] := rfl
@[go_sem] def lv248 : List (Nat × List Nat) := [(10, [2]), (3, [2]), (5, [2]), (7, [2]), (9, [2]), (8, [1, 40]), (6, [1, 4, 25]), (4, [1, 4, 15]), (2, [1, 4, 5]), (1, [1, 4]), (0, [1])]
def ann248 : Ann := ⟨[1], [], lv248, []⟩
@[go_sem] theorem ann248_imm : ann248.imm = [1] := rfl
@[go_sem] theorem ann248_frz : ann248.frz = [] := rfl
@[go_sem] theorem ann248_live : ann248.live = lv248 := rfl
@[go_sem] theorem ann248_head : ann248.head = [] := rfl
@[go_sem] def lv249 : List (Nat × List Nat) := [(7, [2]), (3, [2]), (6, [2]), (5, [1, 11]), (4, [1, 11, 4]), (2, [1, 4, 5]), (1, [1, 4]), (0, [1])]
def ann249 : Ann := ⟨[1], [], lv249, []⟩
@[go_sem] theorem ann249_imm : ann249.imm = [1] := rfl
@[go_sem] theorem ann249_frz : ann249.frz = [] := rfl
@[go_sem] theorem ann249_live : ann249.live = lv249 := rfl
@[go_sem] theorem ann249_head : ann249.head = [] := rfl
@[go_sem] def lv250 : List (Nat × List Nat) := [(6, [2]), (3, [3, 0]), (5, [2]), (4, [0, 3, 15]), (2, [0, 3, 7]), (1, [3, 0]), (0, [0])]
def ann250 : Ann := ⟨[], [], lv250, [(2, [3, 0])]⟩
@[go_sem] theorem ann250_imm : ann250.imm = [] := rfl
@[go_sem] theorem ann250_frz : ann250.frz = [] := rfl
@[go_sem] theorem ann250_live : ann250.live = lv250 := rfl
@[go_sem] theorem ann250_head : ann250.head = [(2, [3, 0])] := rfl
@[go_sem] def lv251 : List (Nat × List Nat) := [(21, [2]), (6, [2]), (16, [2]), (20, [2]), (19, [19]), (18, [19, 3]), (17, [19, 3]), (15, [3, 9]), (14, [3, 9]), (13, [3, 9]), (12, [3, 9]), (11, [3, 9]), (10, [3, 9]), (9, [3, 9]), (8, [3, 9]), (7, [3, 9]), (5, [3, 4]), (4, [3, 4]), (3, [3, 4]), (2, [3, 4]), (1, [3]), (0, [0])]
def ann251 : Ann := ⟨[], [], lv251, []⟩
@[go_sem] theorem ann251_imm : ann251.imm = [] := rfl
@[go_sem] theorem ann251_frz : ann251.frz = [] := rfl
@[go_sem] theorem ann251_live : ann251.live = lv251 := rfl
@[go_sem] theorem ann251_head : ann251.head = [] := rfl
def ann252 : Ann := ⟨[1], [], [(1, [2]), (0, [1])], []⟩
@[go_sem] theorem ann252_imm : ann252.imm = [1] := rfl
@[go_sem] theorem ann252_frz : ann252.frz = [] := rfl
@[go_sem] theorem ann252_live : ann252.live = [(1, [2]), (0, [1])] := rfl
@[go_sem] theorem ann252_head : ann252.head = [] := rfl
@[go_sem] def lv253 : List (Nat × List Nat) := [(6, [6]), (3, [7, 2, 1, 0]), (5, [2, 1, 0, 7]), (4, [2, 1, 7, 0, 19]), (2, [2, 1, 7, 0, 11]), (1, [7, 2, 1, 0]), (0, [2, 1, 0])]
def ann253 : Ann := ⟨[], [], lv253, [(2, [7, 2, 1, 0])]⟩
@[go_sem] theorem ann253_imm : ann253.imm = [] := rfl
@[go_sem] theorem ann253_frz : ann253.frz = [] := rfl
@[go_sem] theorem ann253_live : ann253.live = lv253 := rfl
@[go_sem] theorem ann253_head : ann253.head = [(2, [7, 2, 1, 0])] := rfl
def ann254 : Ann := ⟨[1], [], [(1, [2]), (0, [1])], []⟩
@[go_sem] theorem ann254_imm : ann254.imm = [1] := rfl
@[go_sem] theorem ann254_frz : ann254.frz = [] := rfl
@[go_sem] theorem ann254_live : ann254.live = [(1, [2]), (0, [1])] := rfl
@[go_sem] theorem ann254_head : ann254.head = [] := rfl
def ann255 : Ann := ⟨[2], [], [(3, [4]), (2, [4]), (1, [16]), (0, [1, 2])], []⟩
@[go_sem] theorem ann255_imm : ann255.imm = [2] := rfl
@[go_sem] theorem ann255_frz : ann255.frz = [] := rfl
@[go_sem] theorem ann255_live : ann255.live = [(3, [4]), (2, [4]), (1, [16]), (0, [1, 2])] := rfl
@[go_sem] theorem ann255_head : ann255.head = [] := rfl
@[go_sem] def lv256 : List (Nat × List Nat) := [(8, [4]), (7, [5, 0, 6]), (6, [5, 0, 1, 6]), (5, [4]), (4, [0, 5, 1, 32]), (3, [5, 0, 1]), (2, [0, 1, 5, 18]), (1, [5, 0, 1]), (0, [0, 1])]
def ann256 : Ann := ⟨[], [], lv256, [(2, [5, 0, 1])]⟩
@[go_sem] theorem ann256_imm : ann256.imm = [] := rfl
@[go_sem] theorem ann256_frz : ann256.frz = [] := rfl
@[go_sem] theorem ann256_live : ann256.live = lv256 := rfl
@[go_sem] theorem ann256_head : ann256.head = [(2, [5, 0, 1])] := rfl
@[go_sem] def lv257 : List (Nat × List Nat) := [(10, [4]), (4, [4]), (9, [4]), (8, [15]), (7, [1, 10]), (6, [1, 10, 6]), (5, [1, 10, 6]), (3, [1, 6, 7]), (2, [1, 6, 7]), (1, [1, 6]), (0, [1, 2])]
def ann257 : Ann := ⟨[2], [], lv257, []⟩
@[go_sem] theorem ann257_imm : ann257.imm = [2] := rfl
@[go_sem] theorem ann257_frz : ann257.frz = [] := rfl
@[go_sem] theorem ann257_live : ann257.live = lv257 := rfl
@[go_sem] theorem ann257_head : ann257.head = [] := rfl
@[go_sem] def lv258 : List (Nat × List Nat) := [(10, [6, 7]), (5, [6, 7]), (4, [6, 7]), (3, [6, 2, 1, 16]), (7, [6, 7]), (9, [6, 7]), (8, [6, 2, 1, 28]), (6, [6, 1, 2, 8, 23]), (2, [6, 2, 1, 8, 9]), (1, [6, 2, 1, 8]), (0, [6, 2, 1, 0])]
def ann258 : Ann := ⟨[], [], lv258, []⟩
@[go_sem] theorem ann258_imm : ann258.imm = [] := rfl
@[go_sem] theorem ann258_frz : ann258.frz = [] := rfl
@[go_sem] theorem ann258_live : ann258.live = lv258 := rfl
@[go_sem] theorem ann258_head : ann258.head = [] := rfl
@[go_sem] def lv259 : List (Nat × List Nat) := [(22, [6]), (21, [6]), (20, [6, 2, 1, 69]), (19, [6]), (18, [6, 2, 1, 0, 65]), (3, [6]), (5, [6]), (7, [6]), (9, [6]), (11, [6]), (13, [6]), (15, [6]), (17, [6]), (16, [6, 1, 2, 0, 59]), (14, [6, 2, 1, 0, 7, 53]), (12, [6, 2, 1, 0, 7, 47]), (10, [6, 2, 1, 0, 7, 41]), (8, [6, 1, 2, 0, 7, 36]), (6, [6, 1, 2, 0, 7, 20]), (4, [6, 2, 1, 0, 7, 14]), (2, [6, 2, 1, 0, 7, 8]), (1, [6, 2, 1, 0, 7]), (0, [6, 2, 1, 0])]
def ann259 : Ann := ⟨[], [], lv259, []⟩
@[go_sem] theorem ann259_imm : ann259.imm = [] := rfl
@[go_sem] theorem ann259_frz : ann259.frz = [] := rfl
@[go_sem] theorem ann259_live : ann259.live = lv259 := rfl
@[go_sem] theorem ann259_head : ann259.head = [] := rfl
def ann260 : Ann := ⟨[2, 3], [], [(1, [4, 5]), (0, [4, 2])], []⟩
@[go_sem] theorem ann260_imm : ann260.imm = [2, 3] := rfl
@[go_sem] theorem ann260_frz : ann260.frz = [] := rfl
@[go_sem] theorem ann260_live : ann260.live = [(1, [4, 5]), (0, [4, 2])] := rfl
@[go_sem] theorem ann260_head : ann260.head = [] := rfl
@[go_sem] def lv261 : List (Nat × List Nat) := [(5, [5, 6]), (2, [5, 6]), (4, [5, 0]), (3, [5, 0, 22]), (1, [5, 2, 4, 0, 7]), (0, [5, 2, 4, 0])]
def ann261 : Ann := ⟨[4], [], lv261, []⟩
@[go_sem] theorem ann261_imm : ann261.imm = [4] := rfl
@[go_sem] theorem ann261_frz : ann261.frz = [] := rfl
@[go_sem] theorem ann261_live : ann261.live = lv261 := rfl
@[go_sem] theorem ann261_head : ann261.head = [] := rfl
def ann262 : Ann := ⟨[1], [], [(1, [2]), (0, [1])], []⟩
@[go_sem] theorem ann262_imm : ann262.imm = [1] := rfl
@[go_sem] theorem ann262_frz : ann262.frz = [] := rfl
@[go_sem] theorem ann262_live : ann262.live = [(1, [2]), (0, [1])] := rfl
@[go_sem] theorem ann262_head : ann262.head = [] := rfl
def ann263 : Ann := ⟨[3, 4], [], [(1, [5, 6]), (0, [5, 4, 2, 3])], []⟩
@[go_sem] theorem ann263_imm : ann263.imm = [3, 4] := rfl
@[go_sem] theorem ann263_frz : ann263.frz = [] := rfl
@[go_sem] theorem ann263_live : ann263.live = [(1, [5, 6]), (0, [5, 4, 2, 3])] := rfl
@[go_sem] theorem ann263_head : ann263.head = [] := rfl
@[go_sem] def lv264 : List (Nat × List Nat) := [(23, [6]), (22, [72, 10, 2, 1, 70, 6, 71]), (21, [10, 2, 1, 70, 6, 71, 72]), (20, [10, 2, 1, 70, 6, 71, 72, 12]), (19, [10, 2, 1, 70, 6, 71, 72, 73]), (18, [72, 10, 2, 1, 70, 6, 71]), (17, [10, 2, 1, 6, 3]), (16, [10, 1, 6, 3, 2, 62]), (15, [10, 1, 6, 3, 2, 62, 61]), (14, [10, 1, 6, 3, 2, 62, 61]), (13, [10, 1, 6, 3, 2, 62, 61]), (12, [10, 1, 6, 3, 2, 61]), (11, [10, 1, 6, 3, 2]), (10, [6]), (9, [6]), (8, [6]), (7, [6, 8, 44]), (6, [6, 8, 9]), (3, [6, 3]), (5, [6, 2, 7, 1, 3, 29]), (4, [6, 3, 2, 7, 1, 26]), (2, [6, 3, 2, 7, 1]), (1, [6, 3, 2, 1, 15]), (0, [6, 3, 2, 1])]
def ann264 : Ann := ⟨[], [], lv264, [(19, [72, 10, 2, 1, 70, 6, 71])]⟩
@[go_sem] theorem ann264_imm : ann264.imm = [] := rfl
@[go_sem] theorem ann264_frz : ann264.frz = [] := rfl
@[go_sem] theorem ann264_live : ann264.live = lv264 := rfl
@[go_sem] theorem ann264_head : ann264.head = [(19, [72, 10, 2, 1, 70, 6, 71])] := rfl
def ann265 : Ann := ⟨[3], [], [(1, [4, 5]), (0, [4, 0])], []⟩
@[go_sem] theorem ann265_imm : ann265.imm = [3] := rfl
@[go_sem] theorem ann265_frz : ann265.frz = [] := rfl
@[go_sem] theorem ann265_live : ann265.live = [(1, [4, 5]), (0, [4, 0])] := rfl
@[go_sem] theorem ann265_head : ann265.head = [] := rfl
@[go_sem] def lv266 : List (Nat × List Nat) := [(10, [2]), (3, [2]), (5, [2]), (7, [2]), (9, [2]), (8, [1, 35]), (6, [1, 4, 25]), (4, [1, 4, 15]), (2, [1, 4, 5]), (1, [1, 4]), (0, [1])]
def ann266 : Ann := ⟨[1], [], lv266, []⟩
@[go_sem] theorem ann266_imm : ann266.imm = [1] := rfl
@[go_sem] theorem ann266_frz : ann266.frz = [] := rfl
@[go_sem] theorem ann266_live : ann266.live = lv266 := rfl
@[go_sem] theorem ann266_head : ann266.head = [] := rfl
@[go_sem] def lv267 : List (Nat × List Nat) := [(27, [2]), (6, [2]), (16, [2]), (20, [2]), (22, [2]), (24, [2]), (26, [2]), (25, [1, 35]), (23, [1, 4, 29]), (21, [1, 4, 24]), (19, [1, 4, 20]), (18, [1, 4, 20]), (17, [1, 4, 20]), (15, [1, 4, 10]), (14, [1, 4, 10]), (13, [1, 4, 10]), (12, [1, 4, 10]), (11, [1, 4, 10]), (10, [1, 4, 10]), (9, [1, 4, 10]), (8, [1, 4, 10]), (7, [1, 4, 10]), (5, [1, 4, 5]), (4, [1, 4, 5]), (3, [1, 4, 5]), (2, [1, 4, 5]), (1, [1, 4]), (0, [1])]
def ann267 : Ann := ⟨[1], [], lv267, []⟩
@[go_sem] theorem ann267_imm : ann267.imm = [1] := rfl
@[go_sem] theorem ann267_frz : ann267.frz = [] := rfl
@[go_sem] theorem ann267_live : ann267.live = lv267 := rfl
@[go_sem] theorem ann267_head : ann267.head = [] := rfl
@[go_sem] def lv268 : List (Nat × List Nat) := [(7, [2]), (3, [2]), (6, [2]), (5, [1, 11]), (4, [1, 11, 4]), (2, [1, 4, 5]), (1, [1, 4]), (0, [1])]
def ann268 : Ann := ⟨[1], [], lv268, []⟩
@[go_sem] theorem ann268_imm : ann268.imm = [1] := rfl
@[go_sem] theorem ann268_frz : ann268.frz = [] := rfl
@[go_sem] theorem ann268_live : ann268.live = lv268 := rfl
@[go_sem] theorem ann268_head : ann268.head = [] := rfl
@[go_sem] def lv269 : List (Nat × List Nat) := [(5, [2]), (2, [2]), (4, [2]), (3, [1, 16]), (1, [1, 3]), (0, [1])]
def ann269 : Ann := ⟨[1], [], lv269, []⟩
@[go_sem] theorem ann269_imm : ann269.imm = [1] := rfl
@[go_sem] theorem ann269_frz : ann269.frz = [] := rfl
@[go_sem] theorem ann269_live : ann269.live = lv269 := rfl
@[go_sem] theorem ann269_head : ann269.head = [] := rfl
def ann270 : Ann := ⟨[2], [], [(3, [4]), (2, [4]), (1, [2, 5]), (0, [2, 1])], []⟩
@[go_sem] theorem ann270_imm : ann270.imm = [2] := rfl
@[go_sem] theorem ann270_frz : ann270.frz = [] := rfl
@[go_sem] theorem ann270_live : ann270.live = [(3, [4]), (2, [4]), (1, [2, 5]), (0, [2, 1])] := rfl
@[go_sem] theorem ann270_head : ann270.head = [] := rfl
def ann271 : Ann := ⟨[], [], [(1, [0]), (0, [0])], []⟩
@[go_sem] theorem ann271_imm : ann271.imm = [] := rfl
@[go_sem] theorem ann271_frz : ann271.frz = [] := rfl
@[go_sem] theorem ann271_live : ann271.live = [(1, [0]), (0, [0])] := rfl
@[go_sem] theorem ann271_head : ann271.head = [] := rfl
@[go_sem] def lv272 : List (Nat × List Nat) := [(5, [2]), (4, [2]), (3, [0, 10]), (2, [2]), (1, [0, 4]), (0, [0])]
def ann272 : Ann := ⟨[], [], lv272, []⟩
@[go_sem] theorem ann272_imm : ann272.imm = [] := rfl
@[go_sem] theorem ann272_frz : ann272.frz = [] := rfl
@[go_sem] theorem ann272_live : ann272.live = lv272 := rfl
@[go_sem] theorem ann272_head : ann272.head = [] := rfl
def ann273 : Ann := ⟨[3], [], [(1, [6]), (0, [6, 2, 1, 3])], []⟩
@[go_sem] theorem ann273_imm : ann273.imm = [3] := rfl
@[go_sem] theorem ann273_frz : ann273.frz = [] := rfl
@[go_sem] theorem ann273_live : ann273.live = [(1, [6]), (0, [6, 2, 1, 3])] := rfl
@[go_sem] theorem ann273_head : ann273.head = [] := rfl
@[go_sem] def lv274 : List (Nat × List Nat) := [(12, [6]), (10, [8, 3, 6, 2]), (11, [3, 6, 2, 8]), (9, [3, 6, 2, 8, 25]), (8, [8, 3, 6, 2]), (7, [3, 6, 2]), (5, [7, 3, 6, 2, 1]), (6, [3, 6, 2, 1, 7]), (4, [3, 6, 2, 1, 7, 14]), (3, [7, 3, 6, 2, 1]), (2, [6]), (1, [6, 3, 2, 1, 10]), (0, [6, 3, 2, 1])]
def ann274 : Ann := ⟨[], [], lv274, [(9, [8, 3, 6, 2]), (4, [7, 3, 6, 2, 1])]⟩
@[go_sem] theorem ann274_imm : ann274.imm = [] := rfl
@[go_sem] theorem ann274_frz : ann274.frz = [] := rfl
@[go_sem] theorem ann274_live : ann274.live = lv274 := rfl
@[go_sem] theorem ann274_head : ann274.head = [(9, [8, 3, 6, 2]), (4, [7, 3, 6, 2, 1])] := rfl
@[go_sem] def lv275 : List (Nat × List Nat) := [(4, [4, 5, 6]), (3, [4, 5, 6]), (2, [1, 7, 0, 12]), (1, [1, 7, 0]), (0, [1, 0])]
def ann275 : Ann := ⟨[], [], lv275, []⟩
@[go_sem] theorem ann275_imm : ann275.imm = [] := rfl
@[go_sem] theorem ann275_frz : ann275.frz = [] := rfl
@[go_sem] theorem ann275_live : ann275.live = lv275 := rfl
@[go_sem] theorem ann275_head : ann275.head = [] := rfl
def ann277 : Ann := ⟨[], [], [(1, [2]), (0, [0])], []⟩
@[go_sem] theorem ann277_imm : ann277.imm = [] := rfl
@[go_sem] theorem ann277_frz : ann277.frz = [] := rfl
@[go_sem] theorem ann277_live : ann277.live = [(1, [2]), (0, [0])] := rfl
@[go_sem] theorem ann277_head : ann277.head = [] := rfl
def ann278 : Ann := ⟨[], [], [(1, [2]), (0, [0])], []⟩
@[go_sem] theorem ann278_imm : ann278.imm = [] := rfl
@[go_sem] theorem ann278_frz : ann278.frz = [] := rfl
@[go_sem] theorem ann278_live : ann278.live = [(1, [2]), (0, [0])] := rfl
@[go_sem] theorem ann278_head : ann278.head = [] := rfl
def ann284 : Ann := ⟨[], [], [(1, []), (0, [2, 0])], []⟩
@[go_sem] theorem ann284_imm : ann284.imm = [] := rfl
@[go_sem] theorem ann284_frz : ann284.frz = [] := rfl
@[go_sem] theorem ann284_live : ann284.live = [(1, []), (0, [2, 0])] := rfl
@[go_sem] theorem ann284_head : ann284.head = [] := rfl
@[go_sem] def lv285 : List (Nat × List Nat) := [(16, [2]), (5, [3, 0]), (15, [2]), (14, [3, 0]), (10, [5, 3, 4, 0]), (13, [3, 4, 0, 5]), (12, [4, 0, 5, 3]), (11, [4, 0, 5, 3, 44]), (9, [4, 0, 5, 3, 32]), (8, [5, 3, 4, 0]), (7, [3, 4, 0]), (6, [3, 0, 25]), (4, [3, 0, 13]), (3, [3, 0]), (2, [2]), (1, [0, 8]), (0, [0])]
def ann285 : Ann := ⟨[], [], lv285, [(9, [5, 3, 4, 0]), (4, [3, 0])]⟩
@[go_sem] theorem ann285_imm : ann285.imm = [] := rfl
@[go_sem] theorem ann285_frz : ann285.frz = [] := rfl
@[go_sem] theorem ann285_live : ann285.live = lv285 := rfl
@[go_sem] theorem ann285_head : ann285.head = [(9, [5, 3, 4, 0]), (4, [3, 0])] := rfl
@[go_sem] def lv286 : List (Nat × List Nat) := [(18, [2]), (6, [2]), (17, [2]), (16, [9]), (15, [9, 3]), (14, [9, 3]), (13, [9, 3]), (12, [9, 3]), (11, [9, 3]), (10, [9, 3]), (9, [9, 3]), (8, [9, 3]), (7, [9, 3]), (5, [3, 4]), (4, [3, 4]), (3, [3, 4]), (2, [3, 4]), (1, [3]), (0, [0])]
def ann286 : Ann := ⟨[], [], lv286, []⟩
@[go_sem] theorem ann286_imm : ann286.imm = [] := rfl
@[go_sem] theorem ann286_frz : ann286.frz = [] := rfl
@[go_sem] theorem ann286_live : ann286.live = lv286 := rfl
@[go_sem] theorem ann286_head : ann286.head = [] := rfl
@[go_sem] def lv287 : List (Nat × List Nat) := [(7, [6]), (5, [7, 2, 4, 0]), (6, [2, 4, 0, 7]), (4, [2, 4, 7, 0, 27]), (3, [7, 2, 4, 0]), (2, [6]), (1, [2, 4, 0, 16]), (0, [2, 4, 0])]
def ann287 : Ann := ⟨[4], [], lv287, [(4, [7, 2, 4, 0])]⟩
@[go_sem] theorem ann287_imm : ann287.imm = [4] := rfl
@[go_sem] theorem ann287_frz : ann287.frz = [] := rfl
@[go_sem] theorem ann287_live : ann287.live = lv287 := rfl
@[go_sem] theorem ann287_head : ann287.head = [(4, [7, 2, 4, 0])] := rfl
def ann288 : Ann := ⟨[], [], [(3, [4]), (2, [4]), (1, [4, 0, 14]), (0, [4, 0, 1])], []⟩
@[go_sem] theorem ann288_imm : ann288.imm = [] := rfl
@[go_sem] theorem ann288_frz : ann288.frz = [] := rfl
@[go_sem] theorem ann288_live : ann288.live = [(3, [4]), (2, [4]), (1, [4, 0, 14]), (0, [4, 0, 1])] := rfl
@[go_sem] theorem ann288_head : ann288.head = [] := rfl
@[go_sem] def lv289 : List (Nat × List Nat) := [(5, [2]), (4, [2, 3, 4]), (3, [2, 3]), (2, [2, 3, 5]), (1, [2, 3, 0]), (0, [2, 0])]
def ann289 : Ann := ⟨[], [], lv289, []⟩
@[go_sem] theorem ann289_imm : ann289.imm = [] := rfl
@[go_sem] theorem ann289_frz : ann289.frz = [] := rfl
@[go_sem] theorem ann289_live : ann289.live = lv289 := rfl
@[go_sem] theorem ann289_head : ann289.head = [] := rfl
def ann290 : Ann := ⟨[], [], [(1, [0]), (0, [0])], []⟩
@[go_sem] theorem ann290_imm : ann290.imm = [] := rfl
@[go_sem] theorem ann290_frz : ann290.frz = [] := rfl
@[go_sem] theorem ann290_live : ann290.live = [(1, [0]), (0, [0])] := rfl
@[go_sem] theorem ann290_head : ann290.head = [] := rfl
def ann291 : Ann := ⟨[], [], [(1, [2]), (0, [0])], []⟩
@[go_sem] theorem ann291_imm : ann291.imm = [] := rfl
@[go_sem] theorem ann291_frz : ann291.frz = [] := rfl
@[go_sem] theorem ann291_live : ann291.live = [(1, [2]), (0, [0])] := rfl
@[go_sem] theorem ann291_head : ann291.head = [] := rfl
@[go_sem] def lv293 : List (Nat × List Nat) := [(7, [2]), (6, [2]), (5, [4]), (4, [4, 3]), (3, [4, 3]), (2, [4, 3]), (1, [3]), (0, [0])]
def ann293 : Ann := ⟨[], [], lv293, []⟩
@[go_sem] theorem ann293_imm : ann293.imm = [] := rfl
@[go_sem] theorem ann293_frz : ann293.frz = [] := rfl
@[go_sem] theorem ann293_live : ann293.live = lv293 := rfl
@[go_sem] theorem ann293_head : ann293.head = [] := rfl
def ann294 : Ann := ⟨[], [], [(1, [2]), (0, [0])], []⟩
@[go_sem] theorem ann294_imm : ann294.imm = [] := rfl
@[go_sem] theorem ann294_frz : ann294.frz = [] := rfl
@[go_sem] theorem ann294_live : ann294.live = [(1, [2]), (0, [0])] := rfl
@[go_sem] theorem ann294_head : ann294.head = [] := rfl
def ann295 : Ann := ⟨[1], [], [(1, [2]), (0, [1])], []⟩
@[go_sem] theorem ann295_imm : ann295.imm = [1] := rfl
@[go_sem] theorem ann295_frz : ann295.frz = [] := rfl
@[go_sem] theorem ann295_live : ann295.live = [(1, [2]), (0, [1])] := rfl
@[go_sem] theorem ann295_head : ann295.head = [] := rfl
def ann296 : Ann := ⟨[], [], [(1, [0]), (0, [0])], []⟩
@[go_sem] theorem ann296_imm : ann296.imm = [] := rfl
@[go_sem] theorem ann296_frz : ann296.frz = [] := rfl
@[go_sem] theorem ann296_live : ann296.live = [(1, [0]), (0, [0])] := rfl
@[go_sem] theorem ann296_head : ann296.head = [] := rfl
@[go_sem] def lv297 : List (Nat × List Nat) := [(11, [10]), (9, [12, 11, 5, 4, 3, 2, 1, 10]), (10, [11, 5, 4, 3, 2, 1, 10, 12]), (8, [11, 5, 4, 3, 2, 1, 10, 12, 45]), (7, [12, 11, 5, 4, 3, 2, 1, 10]), (6, [11, 5, 4, 3, 2, 1, 10]), (5, [11, 5, 4, 3, 2, 1, 10]), (4, [11, 5, 4, 3, 2, 1, 10]), (3, [11, 5, 4, 3, 2, 1, 10]), (2, [11, 5, 4, 3, 2, 1, 10, 22]), (1, [11, 5, 4, 3, 2, 1, 10]), (0, [5, 4, 3, 2, 1, 10])]
def ann297 : Ann := ⟨[5], [], lv297, [(8, [12, 11, 5, 4, 3, 2, 1, 10])]⟩
@[go_sem] theorem ann297_imm : ann297.imm = [5] := rfl
@[go_sem] theorem ann297_frz : ann297.frz = [] := rfl
@[go_sem] theorem ann297_live : ann297.live = lv297 := rfl
@[go_sem] theorem ann297_head : ann297.head = [(8, [12, 11, 5, 4, 3, 2, 1, 10])] := rfl
def ann298 : Ann := ⟨[4, 5], [], [(1, [6]), (0, [6, 5, 4, 0])], []⟩
@[go_sem] theorem ann298_imm : ann298.imm = [4, 5] := rfl
@[go_sem] theorem ann298_frz : ann298.frz = [] := rfl
@[go_sem] theorem ann298_live : ann298.live = [(1, [6]), (0, [6, 5, 4, 0])] := rfl
@[go_sem] theorem ann298_head : ann298.head = [] := rfl
def ann299 : Ann := ⟨[2], [], [(1, [4]), (0, [4, 1, 2])], []⟩
@[go_sem] theorem ann299_imm : ann299.imm = [2] := rfl
@[go_sem] theorem ann299_frz : ann299.frz = [] := rfl
@[go_sem] theorem ann299_live : ann299.live = [(1, [4]), (0, [4, 1, 2])] := rfl
@[go_sem] theorem ann299_head : ann299.head = [] := rfl
def ann303 : Ann := ⟨[], [], [(1, [2]), (0, [0])], []⟩
@[go_sem] theorem ann303_imm : ann303.imm = [] := rfl
@[go_sem] theorem ann303_frz : ann303.frz = [] := rfl
@[go_sem] theorem ann303_live : ann303.live = [(1, [2]), (0, [0])] := rfl
@[go_sem] theorem ann303_head : ann303.head = [] := rfl
@[go_sem] def lv306 : List (Nat × List Nat) := [(27, [2, 1, 0, 9, 8, 3]), (26, [2, 0, 9, 8, 3, 14]), (25, [2, 0, 9, 8, 3, 14, 1]), (30, [2, 1, 0, 9, 8, 3]), (29, [1, 0, 9, 8, 3, 14]), (28, [1, 0, 9, 8, 3, 14, 2]), (24, [2, 0, 9, 3, 14, 1, 18, 16, 17, 113]), (23, [2, 0, 9, 3, 14, 1, 18, 16, 17]), (22, [2, 0, 9, 3, 14, 1, 16, 17, 10]), (21, [2, 0, 9, 3, 14, 1, 10]), (20, [2, 0, 3, 14, 1, 10, 15]), (19, [2, 1, 0, 9, 8, 3]), (18, [2, 0, 9, 8, 3, 13]), (17, [2, 0, 9, 8, 3, 11, 1, 10, 87]), (16, [2, 0, 9, 8, 3, 11, 1, 10, 72]), (15, [2, 0, 9, 8, 3, 11, 1, 10, 68]), (14, [2, 0, 9, 8, 3, 11, 1, 10, 12]), (13, [2, 0, 9, 8, 3, 11, 1, 10]), (12, [2, 0, 9, 8, 3, 1, 10, 11]), (11, [2, 0, 9, 8, 3, 1, 10, 11, 12, 50]), (10, [2, 0, 9, 8, 3, 1, 10, 11, 12]), (9, [2, 0, 9, 8, 3, 1, 10]), (8, [2, 0, 9, 8, 1, 10, 3]), (7, [2, 0, 9, 8, 1, 10, 3, 35]), (6, []), (5, [2, 1, 0, 9, 8, 10, 3, 29]), (4, []), (3, [2, 1, 0, 9, 8, 10, 3, 23]), (2, [2, 1, 0, 9, 8, 10, 3]), (1, [2, 1, 0, 9, 8, 3]), (0, [2, 1, 0, 8, 3])]
def ann306 : Ann := ⟨[], [], lv306, [(1, [2, 1, 0, 9, 8, 3])]⟩
@[go_sem] theorem ann306_imm : ann306.imm = [] := rfl
@[go_sem] theorem ann306_frz : ann306.frz = [] := rfl
@[go_sem] theorem ann306_live : ann306.live = lv306 := rfl
@[go_sem] theorem ann306_head : ann306.head = [(1, [2, 1, 0, 9, 8, 3])] := rfl
@[go_sem] def lv307 : List (Nat × List Nat) := [(13, [4]), (12, [5]), (11, [1, 5, 42]), (5, [7, 0, 1, 5, 6]), (10, [0, 1, 5, 6, 7]), (9, [0, 1, 6, 7, 5, 33]), (8, [0, 1, 6, 7, 5]), (7, [0, 1, 7, 5]), (6, [0, 1, 7, 5, 6, 23]), (4, [0, 1, 7, 5, 6, 11]), (3, [7, 0, 1, 5, 6]), (2, [0, 1, 5, 6]), (1, [0, 1, 5]), (0, [0, 1])]
def ann307 : Ann := ⟨[], [], lv307, [(4, [7, 0, 1, 5, 6])]⟩
@[go_sem] theorem ann307_imm : ann307.imm = [] := rfl
@[go_sem] theorem ann307_frz : ann307.frz = [] := rfl
@[go_sem] theorem ann307_live : ann307.live = lv307 := rfl
@[go_sem] theorem ann307_head : ann307.head = [(4, [7, 0, 1, 5, 6])] := rfl
def ann308 : Ann := ⟨[2], [], [(3, [4]), (2, [4]), (1, [1, 7]), (0, [1, 2])], []⟩
@[go_sem] theorem ann308_imm : ann308.imm = [2] := rfl
@[go_sem] theorem ann308_frz : ann308.frz = [] := rfl
@[go_sem] theorem ann308_live : ann308.live = [(3, [4]), (2, [4]), (1, [1, 7]), (0, [1, 2])] := rfl
@[go_sem] theorem ann308_head : ann308.head = [] := rfl
@[go_sem] def lv310 : List (Nat × List Nat) := [(3, [6]), (2, [6]), (1, [6, 3, 2, 1, 8]), (0, [6, 3, 2, 1])]
def ann310 : Ann := ⟨[3], [], lv310, []⟩
@[go_sem] theorem ann310_imm : ann310.imm = [3] := rfl
@[go_sem] theorem ann310_frz : ann310.frz = [] := rfl
@[go_sem] theorem ann310_live : ann310.live = lv310 := rfl
@[go_sem] theorem ann310_head : ann310.head = [] := rfl
@[go_sem] def lv311 : List (Nat × List Nat) := [(12, [6]), (10, [8, 2, 3, 1, 7, 6]), (11, [2, 3, 1, 7, 6, 8]), (9, [2, 3, 1, 6, 8, 7, 43]), (8, [8, 2, 3, 1, 7, 6]), (7, [2, 3, 1, 7, 6]), (6, [6]), (5, [6]), (4, [6, 2, 3, 1, 23]), (3, [6]), (2, [6, 3, 2, 1, 15]), (1, [6, 3, 2, 1, 11]), (0, [6, 3, 2, 1])]
def ann311 : Ann := ⟨[3], [], lv311, [(9, [8, 2, 3, 1, 7, 6])]⟩
@[go_sem] theorem ann311_imm : ann311.imm = [3] := rfl
@[go_sem] theorem ann311_frz : ann311.frz = [] := rfl
@[go_sem] theorem ann311_live : ann311.live = lv311 := rfl
@[go_sem] theorem ann311_head : ann311.head = [(9, [8, 2, 3, 1, 7, 6])] := rfl
@[go_sem] def lv321 : List (Nat × List Nat) := [(2, [0, 6, 1, 2]), (5, [7, 0, 1, 2, 6]), (6, [0, 1, 2, 6, 7]), (4, [0, 1, 2, 6, 7, 30]), (3, [7, 0, 1, 2, 6]), (1, [0, 1, 2, 6, 12]), (0, [0, 6, 1, 2])]
def ann321 : Ann := ⟨[], [], lv321, [(4, [7, 0, 1, 2, 6]), (1, [0, 6, 1, 2])]⟩
@[go_sem] theorem ann321_imm : ann321.imm = [] := rfl
@[go_sem] theorem ann321_frz : ann321.frz = [] := rfl
@[go_sem] theorem ann321_live : ann321.live = lv321 := rfl
@[go_sem] theorem ann321_head : ann321.head = [(4, [7, 0, 1, 2, 6]), (1, [0, 6, 1, 2])] := rfl
@[go_sem] def lv331 : List (Nat × List Nat) := [(11, [6]), (9, [8, 2, 3, 1, 7, 6]), (10, [2, 3, 1, 7, 6, 8]), (8, [2, 3, 1, 6, 8, 7, 28]), (7, [8, 2, 3, 1, 7, 6]), (6, [2, 3, 1, 7, 6]), (5, [6]), (4, [6]), (3, [6, 1, 3, 17]), (2, [6, 1, 3, 2, 13]), (1, [6, 1, 3, 2]), (0, [6, 1, 3, 2])]
def ann331 : Ann := ⟨[3], [], lv331, [(8, [8, 2, 3, 1, 7, 6])]⟩
@[go_sem] theorem ann331_imm : ann331.imm = [3] := rfl
@[go_sem] theorem ann331_frz : ann331.frz = [] := rfl
@[go_sem] theorem ann331_live : ann331.live = lv331 := rfl
@[go_sem] theorem ann331_head : ann331.head = [(8, [8, 2, 3, 1, 7, 6])] := rfl
def ann332 : Ann := ⟨[2], [], [(1, [4]), (0, [4, 1, 2])], []⟩
@[go_sem] theorem ann332_imm : ann332.imm = [2] := rfl
@[go_sem] theorem ann332_frz : ann332.frz = [] := rfl
@[go_sem] theorem ann332_live : ann332.live = [(1, [4]), (0, [4, 1, 2])] := rfl
@[go_sem] theorem ann332_head : ann332.head = [] := rfl
theorem wf {f : FuncId} {fn : Func} {c : Code} {rv : List ResultVar} {args : List SV} {refs refs' : List Box} {r : PV} (A : Ann) (n : Nat) (hf : Tryz.prog.funcs[f]? = some fn) (h : argsFit args → AWp Tryz.prog A c (finK Tryz.prog rv r refs') (start args refs))
  (hb : fn.body = some c := by exact rfl) (hr : fn.results.toList = rv := by exact rfl) (hk : fnChk fn n args.length c = true := by kernel_rfl) (hlen : refs'.length = refs.length := by exact rfl) (hnm : (refs'.flatMap fun b => svNames b.c).all (isRefB refs.length) = true := by exact rfl) : Spec Tryz.prog f args refs r refs' :=
 Spec.walk A n hf mixed hb hr hk hlen hnm h
theorem wk {f : FuncId} {fn : Func} {c : Code} {rv : List ResultVar} {args : List SV} {refs refs' : List Box} {r : PV} (A : Ann) (n : Nat) (hf : Tryz.prog.funcs[f]? = some fn) (h : AWp Tryz.prog A c (finK Tryz.prog rv r refs') (start args refs))
  (hb : fn.body = some c := by exact rfl) (hr : fn.results.toList = rv := by exact rfl) (hk : fnChk fn n args.length c = true := by kernel_rfl) (hlen : refs'.length = refs.length := by exact rfl) (hnm : (refs'.flatMap fun b => svNames b.c).all (isRefB refs.length) = true := by exact rfl) : Spec Tryz.prog f args refs r refs' :=
 Spec.walk A n hf mixed hb hr hk hlen hnm fun _ => h
end Go.Abs.Kon
namespace Go.Abs.Kon
open Go Go.Proofs Go.Abs
end Go.Abs.Kon
