/- Closed facts on the types and functions of this program, printed by a program and checked by the kernel. -/
import Derived.Test.YthedhplpgfpodaaGreatDoorAbsC
import Derived.Test.YthedhplpgfpodaaGreatDoorProg
set_option linter.unusedSimpArgs false
set_option linter.unusedVariables false
namespace Go.Abs.Kon
open Go Go.Proofs Go.Abs
theorem mixed : Tryz.prog.follows .mixedOrders = true := by kernel_rfl
@[go_sem] theorem sz3 : szOf Tryz.prog 3 = some Sz.one := by kernel_rfl
@[go_sem] theorem zo3 : zeroOf Tryz.prog 3 = some (Sz.one, SV.one (SC.pv (PV.int IntKind.i64 0))) := by kernel_rfl
@[go_sem] theorem cv3 : cvTOf Tryz.prog 3 = CvT.int IntKind.i64 := by kernel_rfl
@[go_sem] theorem sz4 : szOf Tryz.prog 4 = some Sz.one := by kernel_rfl
@[go_sem] theorem zo4 : zeroOf Tryz.prog 4 = some (Sz.one, SV.one (SC.pv (PV.bool Bool.false))) := by kernel_rfl
@[go_sem] theorem eq4 : eqTOf Tryz.prog 4 = EqT.bool := by kernel_rfl
@[go_sem] theorem sz5 : szOf Tryz.prog 5 = some Sz.one := by kernel_rfl
@[go_sem] theorem eq5 : eqTOf Tryz.prog 5 = EqT.other := by kernel_rfl
@[go_sem] theorem sz9 : szOf Tryz.prog 9 = some Sz.one := by kernel_rfl
@[go_sem] theorem eq9 : eqTOf Tryz.prog 9 = EqT.str := by kernel_rfl
@[go_sem] theorem sz22 : szOf Tryz.prog 22 = some Sz.one := by kernel_rfl
@[go_sem] theorem el22 : elemOf Tryz.prog 22 = some 24 := by kernel_rfl
@[go_sem] theorem es22 : elemSz Tryz.prog 22 = some (Sz.agg 1, 24) := by kernel_rfl
@[go_sem] theorem eq22 : eqTOf Tryz.prog 22 = EqT.other := by kernel_rfl
@[go_sem] theorem sz24 : szOf Tryz.prog 24 = some (Sz.agg 1) := by kernel_rfl
@[go_sem] theorem zo24 : zeroOf Tryz.prog 24 = some (Sz.agg 1, SV.agg [SC.nilS]) := by kernel_rfl
@[go_sem] theorem pl24 : placesOf Tryz.prog 24 = some [(0, Sz.one)] := by kernel_rfl
@[go_sem] theorem fo24_0 : fieldOff Tryz.prog 24 0 = some 0 := by kernel_rfl
@[go_sem] theorem sz25 : szOf Tryz.prog 25 = some Sz.one := by kernel_rfl
@[go_sem] theorem el25 : elemOf Tryz.prog 25 = some 9 := by kernel_rfl
@[go_sem] theorem es25 : elemSz Tryz.prog 25 = some (Sz.one, 16) := by kernel_rfl
@[go_sem] theorem eq25 : eqTOf Tryz.prog 25 = EqT.other := by kernel_rfl
@[go_sem] theorem sz26 : szOf Tryz.prog 26 = some Sz.one := by kernel_rfl
@[go_sem] theorem el26 : elemOf Tryz.prog 26 = some 28 := by kernel_rfl
@[go_sem] theorem es26 : elemSz Tryz.prog 26 = some (Sz.agg 6, 104) := by kernel_rfl
@[go_sem] theorem eq26 : eqTOf Tryz.prog 26 = EqT.other := by kernel_rfl
@[go_sem] theorem sz28 : szOf Tryz.prog 28 = some (Sz.agg 6) := by kernel_rfl
@[go_sem] theorem zo28 : zeroOf Tryz.prog 28 = some (Sz.agg 6, SV.agg [SC.pv (PV.int IntKind.i64 0), SC.pv (PV.int IntKind.i64 0), SC.pv (PV.str ByteArray.empty), SC.nilS, SC.nilS, SC.nilS]) := by kernel_rfl
@[go_sem] theorem pl28 : placesOf Tryz.prog 28 = some [(0, Sz.one), (1, Sz.one), (2, Sz.one), (3, Sz.agg 1), (4, Sz.one), (5, Sz.one)] := by kernel_rfl
@[go_sem] theorem fo28_0 : fieldOff Tryz.prog 28 0 = some 0 := by kernel_rfl
@[go_sem] theorem fo28_1 : fieldOff Tryz.prog 28 1 = some 1 := by kernel_rfl
@[go_sem] theorem fo28_2 : fieldOff Tryz.prog 28 2 = some 2 := by kernel_rfl
@[go_sem] theorem fo28_3 : fieldOff Tryz.prog 28 3 = some 3 := by kernel_rfl
@[go_sem] theorem fo28_4 : fieldOff Tryz.prog 28 4 = some 4 := by kernel_rfl
@[go_sem] theorem fo28_5 : fieldOff Tryz.prog 28 5 = some 5 := by kernel_rfl
@[go_sem] theorem sz36 : szOf Tryz.prog 36 = some Sz.one := by kernel_rfl
@[go_sem] theorem el36 : elemOf Tryz.prog 36 = some 40 := by kernel_rfl
@[go_sem] theorem es36 : elemSz Tryz.prog 36 = some (Sz.agg 7, 120) := by kernel_rfl
@[go_sem] theorem eq36 : eqTOf Tryz.prog 36 = EqT.other := by kernel_rfl
@[go_sem] theorem sz40 : szOf Tryz.prog 40 = some (Sz.agg 7) := by kernel_rfl
@[go_sem] theorem zo40 : zeroOf Tryz.prog 40 = some (Sz.agg 7, SV.agg [SC.pv (PV.str ByteArray.empty), SC.pv (PV.int IntKind.i64 0), SC.pv (PV.int IntKind.i64 0), SC.pv (PV.str ByteArray.empty), SC.nilS, SC.nilS, SC.nilS]) := by kernel_rfl
@[go_sem] theorem pl40 : placesOf Tryz.prog 40 = some [(0, Sz.one), (1, Sz.agg 6)] := by kernel_rfl
@[go_sem] theorem fo40_0 : fieldOff Tryz.prog 40 0 = some 0 := by kernel_rfl
@[go_sem] theorem fo40_1 : fieldOff Tryz.prog 40 1 = some 1 := by kernel_rfl
@[go_sem] theorem sz79 : szOf Tryz.prog 79 = some Sz.one := by kernel_rfl
@[go_sem] theorem el84 : elemOf Tryz.prog 84 = some 36 := by kernel_rfl
@[go_sem] theorem es84 : elemSz Tryz.prog 84 = some (Sz.one, 24) := by kernel_rfl
@[go_sem] theorem eq84 : eqTOf Tryz.prog 84 = EqT.other := by kernel_rfl
@[go_sem] theorem sz96 : szOf Tryz.prog 96 = some (Sz.agg 7) := by kernel_rfl
@[go_sem] theorem zo96 : zeroOf Tryz.prog 96 = some (Sz.agg 7, SV.agg [SC.pv (PV.int IntKind.i64 0), SC.pv (PV.int IntKind.i64 0), SC.pv (PV.int IntKind.i64 0), SC.pv (PV.str ByteArray.empty), SC.nilS, SC.nilS, SC.nilS]) := by kernel_rfl
@[go_sem] theorem pl96 : placesOf Tryz.prog 96 = some [(0, Sz.one), (1, Sz.agg 6)] := by kernel_rfl
@[go_sem] theorem fo96_0 : fieldOff Tryz.prog 96 0 = some 0 := by kernel_rfl
@[go_sem] theorem fo96_1 : fieldOff Tryz.prog 96 1 = some 1 := by kernel_rfl
@[go_sem] theorem sz137 : szOf Tryz.prog 137 = some Sz.one := by kernel_rfl
@[go_sem] theorem zo137 : zeroOf Tryz.prog 137 = some (Sz.one, SV.one (SC.pv PV.nilfn)) := by kernel_rfl
@[go_sem] theorem el140 : elemOf Tryz.prog 140 = some 3 := by kernel_rfl
@[go_sem] theorem es140 : elemSz Tryz.prog 140 = some (Sz.one, 8) := by kernel_rfl
@[go_sem] theorem eq140 : eqTOf Tryz.prog 140 = EqT.other := by kernel_rfl
@[go_sem] theorem sz158 : szOf Tryz.prog 158 = some (Sz.agg 2) := by kernel_rfl
@[go_sem] theorem zo158 : zeroOf Tryz.prog 158 = some (Sz.agg 2, SV.agg [SC.pv PV.nilfn, SC.pv (PV.int IntKind.i64 0)]) := by kernel_rfl
@[go_sem] theorem pl158 : placesOf Tryz.prog 158 = some [(0, Sz.one), (1, Sz.one)] := by kernel_rfl
@[go_sem] theorem fo158_0 : fieldOff Tryz.prog 158 0 = some 0 := by kernel_rfl
@[go_sem] theorem fo158_1 : fieldOff Tryz.prog 158 1 = some 1 := by kernel_rfl
@[go_sem] theorem el166 : elemOf Tryz.prog 166 = some 5 := by kernel_rfl
@[go_sem] theorem es166 : elemSz Tryz.prog 166 = some (Sz.one, 1) := by kernel_rfl
@[go_sem] theorem eq166 : eqTOf Tryz.prog 166 = EqT.other := by kernel_rfl
@[go_sem] theorem cv166 : cvTOf Tryz.prog 166 = CvT.bytes := by kernel_rfl
@[go_sem] theorem sz180 : szOf Tryz.prog 180 = some (Sz.agg 2) := by kernel_rfl
@[go_sem] theorem zo180 : zeroOf Tryz.prog 180 = some (Sz.agg 2, SV.agg [SC.pv (PV.int IntKind.i64 0), SC.pv (PV.bool Bool.false)]) := by kernel_rfl
@[go_sem] theorem pl180 : placesOf Tryz.prog 180 = some [(0, Sz.one), (1, Sz.one)] := by kernel_rfl
@[go_sem] theorem fo180_0 : fieldOff Tryz.prog 180 0 = some 0 := by kernel_rfl
@[go_sem] theorem fo180_1 : fieldOff Tryz.prog 180 1 = some 1 := by kernel_rfl
@[go_sem] theorem eq237 : eqTOf Tryz.prog 237 = EqT.iface := by kernel_rfl
def ann11 : Ann := ⟨[1], [], [(1, [2]), (0, [1])], []⟩
@[go_sem] theorem ann11_imm : ann11.imm = [1] := rfl
@[go_sem] theorem ann11_frz : ann11.frz = [] := rfl
@[go_sem] theorem ann11_live : ann11.live = [(1, [2]), (0, [1])] := rfl
@[go_sem] theorem ann11_head : ann11.head = [] := rfl
@[go_sem] def lv13 : List (Nat × List Nat) := [(8, [4]), (5, [5, 3, 2]), (7, [4]), (6, [3, 2, 5, 68]), (4, [3, 2, 5, 54]), (3, [5, 3, 2]), (2, [4]), (1, [3, 2, 49]), (0, [3, 2])]
def ann13 : Ann := ⟨[2, 3], [], lv13, [(4, [5, 3, 2])]⟩
@[go_sem] theorem ann13_imm : ann13.imm = [2, 3] := rfl
@[go_sem] theorem ann13_frz : ann13.frz = [] := rfl
@[go_sem] theorem ann13_live : ann13.live = lv13 := rfl
@[go_sem] theorem ann13_head : ann13.head = [(4, [5, 3, 2])] := rfl
@[go_sem] def lv15 : List (Nat × List Nat) := [(15, [2]), (14, [27, 6, 25, 26]), (13, [6, 25, 26, 27]), (12, [25, 26, 27, 8, 6]), (11, [25, 26, 27, 6, 28]), (10, [27, 6, 25, 26]), (9, [6, 0]), (8, [11, 3, 9, 0, 10]), (7, [3, 9, 0, 10, 11]), (6, [3, 9, 0, 10, 11, 20]), (5, [3, 9, 0, 10, 11]), (4, [9, 0, 10, 11, 5, 3]), (3, [9, 0, 10, 11, 3, 12]), (2, [11, 3, 9, 0, 10]), (1, [3, 0]), (0, [0])]
def ann15 : Ann := ⟨[], [], lv15, [(11, [27, 6, 25, 26]), (3, [11, 3, 9, 0, 10])]⟩
@[go_sem] theorem ann15_imm : ann15.imm = [] := rfl
@[go_sem] theorem ann15_frz : ann15.frz = [] := rfl
@[go_sem] theorem ann15_live : ann15.live = lv15 := rfl
@[go_sem] theorem ann15_head : ann15.head = [(11, [27, 6, 25, 26]), (3, [11, 3, 9, 0, 10])] := rfl
def ann17 : Ann := ⟨[2, 3], [], [(1, [4]), (0, [3, 2])], []⟩
@[go_sem] theorem ann17_imm : ann17.imm = [2, 3] := rfl
@[go_sem] theorem ann17_frz : ann17.frz = [] := rfl
@[go_sem] theorem ann17_live : ann17.live = [(1, [4]), (0, [3, 2])] := rfl
@[go_sem] theorem ann17_head : ann17.head = [] := rfl
@[go_sem] def lv31 : List (Nat × List Nat) := [(9, [4]), (8, [13, 1, 0, 12]), (7, [4]), (6, [1, 0, 12, 13, 24]), (5, [1, 0, 12, 13, 5]), (4, [1, 0, 12, 13, 14]), (3, [13, 1, 0, 12]), (2, [4]), (1, [1, 0, 10]), (0, [1, 0])]
def ann31 : Ann := ⟨[], [], lv31, [(4, [13, 1, 0, 12])]⟩
@[go_sem] theorem ann31_imm : ann31.imm = [] := rfl
@[go_sem] theorem ann31_frz : ann31.frz = [] := rfl
@[go_sem] theorem ann31_live : ann31.live = lv31 := rfl
@[go_sem] theorem ann31_head : ann31.head = [(4, [13, 1, 0, 12])] := rfl
@[go_sem] def lv39 : List (Nat × List Nat) := [(15, [2]), (14, [27, 6, 25, 26]), (13, [6, 25, 26, 27]), (12, [25, 26, 27, 8, 6]), (11, [25, 26, 27, 6, 28]), (10, [27, 6, 25, 26]), (9, [6, 0]), (8, [11, 3, 9, 0, 10]), (7, [3, 9, 0, 10, 11]), (6, [3, 9, 0, 10, 11, 20]), (5, [3, 9, 0, 10, 11]), (4, [9, 0, 10, 11, 5, 3]), (3, [9, 0, 10, 11, 3, 12]), (2, [11, 3, 9, 0, 10]), (1, [3, 0]), (0, [0])]
def ann39 : Ann := ⟨[], [], lv39, [(11, [27, 6, 25, 26]), (3, [11, 3, 9, 0, 10])]⟩
def ann42 : Ann := ⟨[], [], [(2, [0]), (1, [0, 1]), (0, [0])], []⟩
@[go_sem] theorem ann42_imm : ann42.imm = [] := rfl
@[go_sem] theorem ann42_frz : ann42.frz = [] := rfl
@[go_sem] theorem ann42_live : ann42.live = [(2, [0]), (1, [0, 1]), (0, [0])] := rfl
@[go_sem] theorem ann42_head : ann42.head = [] := rfl
def ann43 : Ann := ⟨[], [], [(1, [4]), (0, [1, 0])], []⟩
@[go_sem] theorem ann43_imm : ann43.imm = [] := rfl
@[go_sem] theorem ann43_frz : ann43.frz = [] := rfl
@[go_sem] theorem ann43_live : ann43.live = [(1, [4]), (0, [1, 0])] := rfl
@[go_sem] theorem ann43_head : ann43.head = [] := rfl
def ann46 : Ann := ⟨[1], [], [(1, [2]), (0, [1])], []⟩
@[go_sem] theorem ann46_imm : ann46.imm = [1] := rfl
@[go_sem] theorem ann46_frz : ann46.frz = [] := rfl
@[go_sem] theorem ann46_live : ann46.live = [(1, [2]), (0, [1])] := rfl
@[go_sem] theorem ann46_head : ann46.head = [] := rfl
def ann47 : Ann := ⟨[1], [], [(1, [2]), (0, [1])], []⟩
@[go_sem] theorem ann47_imm : ann47.imm = [1] := rfl
@[go_sem] theorem ann47_frz : ann47.frz = [] := rfl
@[go_sem] theorem ann47_live : ann47.live = [(1, [2]), (0, [1])] := rfl
@[go_sem] theorem ann47_head : ann47.head = [] := rfl
@[go_sem] def lv48 : List (Nat × List Nat) := [(8, [2]), (5, [3, 1]), (7, [2]), (6, [1, 3, 20]), (4, [1, 3, 11]), (3, [3, 1]), (2, [2]), (1, [1, 6]), (0, [1])]
def ann48 : Ann := ⟨[1], [], lv48, [(4, [3, 1])]⟩
@[go_sem] theorem ann48_imm : ann48.imm = [1] := rfl
@[go_sem] theorem ann48_frz : ann48.frz = [] := rfl
@[go_sem] theorem ann48_live : ann48.live = lv48 := rfl
@[go_sem] theorem ann48_head : ann48.head = [(4, [3, 1])] := rfl
@[go_sem] def lv50 : List (Nat × List Nat) := [(8, [4]), (5, [5, 3, 2]), (7, [4]), (6, [3, 2, 5, 31]), (4, [3, 2, 5, 17]), (3, [5, 3, 2]), (2, [4]), (1, [3, 2, 12]), (0, [3, 2])]
def ann50 : Ann := ⟨[2, 3], [], lv50, [(4, [5, 3, 2])]⟩
@[go_sem] theorem ann50_imm : ann50.imm = [2, 3] := rfl
@[go_sem] theorem ann50_frz : ann50.frz = [] := rfl
@[go_sem] theorem ann50_live : ann50.live = lv50 := rfl
@[go_sem] theorem ann50_head : ann50.head = [(4, [5, 3, 2])] := rfl
@[go_sem] def lv51 : List (Nat × List Nat) := [(8, [4]), (5, [5, 1, 0]), (7, [4]), (6, [1, 0, 5, 25]), (4, [1, 0, 5, 14]), (3, [5, 1, 0]), (2, [4]), (1, [1, 0, 10]), (0, [1, 0])]
def ann51 : Ann := ⟨[], [], lv51, [(4, [5, 1, 0])]⟩
@[go_sem] theorem ann51_imm : ann51.imm = [] := rfl
@[go_sem] theorem ann51_frz : ann51.frz = [] := rfl
@[go_sem] theorem ann51_live : ann51.live = lv51 := rfl
@[go_sem] theorem ann51_head : ann51.head = [(4, [5, 1, 0])] := rfl
def ann56 : Ann := ⟨[], [], [(1, [2]), (0, [0])], []⟩
@[go_sem] theorem ann56_imm : ann56.imm = [] := rfl
@[go_sem] theorem ann56_frz : ann56.frz = [] := rfl
@[go_sem] theorem ann56_live : ann56.live = [(1, [2]), (0, [0])] := rfl
@[go_sem] theorem ann56_head : ann56.head = [] := rfl
def ann61 : Ann := ⟨[], [], [(1, [0]), (0, [0])], []⟩
@[go_sem] theorem ann61_imm : ann61.imm = [] := rfl
@[go_sem] theorem ann61_frz : ann61.frz = [] := rfl
@[go_sem] theorem ann61_live : ann61.live = [(1, [0]), (0, [0])] := rfl
@[go_sem] theorem ann61_head : ann61.head = [] := rfl
def ann64 : Ann := ⟨[2, 3], [], [(1, [4]), (0, [3, 2])], []⟩
@[go_sem] theorem ann64_imm : ann64.imm = [2, 3] := rfl
@[go_sem] theorem ann64_frz : ann64.frz = [] := rfl
@[go_sem] theorem ann64_live : ann64.live = [(1, [4]), (0, [3, 2])] := rfl
@[go_sem] theorem ann64_head : ann64.head = [] := rfl
@[go_sem] def lv65 : List (Nat × List Nat) := [(10, [6]), (9, [17, 2, 1, 15, 16]), (8, [6]), (7, [2, 1, 15, 16, 17, 30]), (6, [2, 1, 15, 16, 17, 9, 8]), (5, [2, 1, 15, 16, 17, 8, 7]), (4, [2, 1, 15, 16, 17, 18]), (3, [17, 2, 1, 15, 16]), (2, [6]), (1, [2, 1, 0, 14]), (0, [2, 1, 0])]
def ann65 : Ann := ⟨[], [], lv65, [(4, [17, 2, 1, 15, 16])]⟩
@[go_sem] theorem ann65_imm : ann65.imm = [] := rfl
@[go_sem] theorem ann65_frz : ann65.frz = [] := rfl
@[go_sem] theorem ann65_live : ann65.live = lv65 := rfl
@[go_sem] theorem ann65_head : ann65.head = [(4, [17, 2, 1, 15, 16])] := rfl
def ann73 : Ann := ⟨[], [], [(1, [4]), (0, [1, 0])], []⟩
@[go_sem] theorem ann73_imm : ann73.imm = [] := rfl
@[go_sem] theorem ann73_frz : ann73.frz = [] := rfl
@[go_sem] theorem ann73_live : ann73.live = [(1, [4]), (0, [1, 0])] := rfl
@[go_sem] theorem ann73_head : ann73.head = [] := rfl
@[go_sem] def lv97 : List (Nat × List Nat) := [(5, [4, 5]), (4, [4, 5]), (3, [4, 3, 2, 17]), (2, [4, 5]), (1, [4, 3, 2, 13]), (0, [4, 3, 2])]
def ann97 : Ann := ⟨[2, 3], [], lv97, []⟩
@[go_sem] theorem ann97_imm : ann97.imm = [2, 3] := rfl
@[go_sem] theorem ann97_frz : ann97.frz = [] := rfl
@[go_sem] theorem ann97_live : ann97.live = lv97 := rfl
@[go_sem] theorem ann97_head : ann97.head = [] := rfl
@[go_sem] def lv98 : List (Nat × List Nat) := [(7, [4]), (6, [8, 0, 1, 7]), (5, [4]), (4, [5, 0, 1, 7, 8, 16]), (3, [5, 0, 1, 7, 8]), (2, [0, 1, 7, 8, 9]), (1, [8, 0, 1, 7]), (0, [0, 1])]
def ann98 : Ann := ⟨[], [], lv98, [(2, [8, 0, 1, 7])]⟩
@[go_sem] theorem ann98_imm : ann98.imm = [] := rfl
@[go_sem] theorem ann98_frz : ann98.frz = [] := rfl
@[go_sem] theorem ann98_live : ann98.live = lv98 := rfl
@[go_sem] theorem ann98_head : ann98.head = [(2, [8, 0, 1, 7])] := rfl
@[go_sem] def lv102 : List (Nat × List Nat) := [(7, [2]), (6, [9, 3, 7, 8]), (5, [3, 7, 8, 9]), (4, [7, 8, 9, 5, 3]), (3, [7, 8, 9, 3, 10]), (2, [9, 3, 7, 8]), (1, [3, 1]), (0, [1])]
def ann102 : Ann := ⟨[1], [], lv102, [(3, [9, 3, 7, 8])]⟩
@[go_sem] theorem ann102_imm : ann102.imm = [1] := rfl
@[go_sem] theorem ann102_frz : ann102.frz = [] := rfl
@[go_sem] theorem ann102_live : ann102.live = lv102 := rfl
@[go_sem] theorem ann102_head : ann102.head = [(3, [9, 3, 7, 8])] := rfl
@[go_sem] def lv103 : List (Nat × List Nat) := [(7, [2]), (6, [9, 3, 7, 8]), (5, [3, 7, 8, 9]), (4, [7, 8, 9, 5, 3]), (3, [7, 8, 9, 3, 10]), (2, [9, 3, 7, 8]), (1, [3, 1]), (0, [1])]
def ann103 : Ann := ⟨[1], [], lv103, [(3, [9, 3, 7, 8])]⟩
@[go_sem] theorem ann103_imm : ann103.imm = [1] := rfl
@[go_sem] theorem ann103_frz : ann103.frz = [] := rfl
@[go_sem] theorem ann103_live : ann103.live = lv103 := rfl
@[go_sem] theorem ann103_head : ann103.head = [(3, [9, 3, 7, 8])] := rfl
@[go_sem] def lv104 : List (Nat × List Nat) := [(17, [2]), (16, [2]), (15, [1, 95]), (14, [2]), (13, [1, 69]), (12, [1, 3]), (11, [2]), (10, [1, 44]), (9, [2]), (8, [1, 25]), (5, [2]), (4, [1, 14]), (7, [1, 15]), (6, [1, 15, 11]), (3, [1, 11]), (2, [2]), (1, [1, 9]), (0, [1])]
def ann104 : Ann := ⟨[1], [], lv104, []⟩
@[go_sem] theorem ann104_imm : ann104.imm = [1] := rfl
@[go_sem] theorem ann104_frz : ann104.frz = [] := rfl
@[go_sem] theorem ann104_live : ann104.live = lv104 := rfl
@[go_sem] theorem ann104_head : ann104.head = [] := rfl
@[go_sem] def lv105 : List (Nat × List Nat) := [(8, [6]), (6, [8, 2, 7, 1, 3]), (7, [2, 7, 1, 3, 8]), (5, [2, 1, 3, 8, 7, 21]), (4, [8, 2, 7, 1, 3]), (3, [2, 7, 1, 3]), (2, [6]), (1, [1, 2, 3, 10]), (0, [1, 2, 3])]
def ann105 : Ann := ⟨[3], [], lv105, [(5, [8, 2, 7, 1, 3])]⟩
@[go_sem] theorem ann105_imm : ann105.imm = [3] := rfl
@[go_sem] theorem ann105_frz : ann105.frz = [] := rfl
@[go_sem] theorem ann105_live : ann105.live = lv105 := rfl
@[go_sem] theorem ann105_head : ann105.head = [(5, [8, 2, 7, 1, 3])] := rfl
@[go_sem] def lv106 : List (Nat × List Nat) := [(15, [2]), (14, [2]), (13, [1, 94]), (12, [2]), (11, [1, 86]), (8, [2]), (7, [1, 64]), (10, [2]), (9, [1, 67]), (6, [1, 56]), (5, [2]), (4, [1, 48]), (3, [1, 3]), (2, [2]), (1, [1, 11]), (0, [1])]
def ann106 : Ann := ⟨[1], [], lv106, []⟩
@[go_sem] theorem ann106_imm : ann106.imm = [1] := rfl
@[go_sem] theorem ann106_frz : ann106.frz = [] := rfl
@[go_sem] theorem ann106_live : ann106.live = lv106 := rfl
@[go_sem] theorem ann106_head : ann106.head = [] := rfl
def ann110 : Ann := ⟨[], [], [(1, [2]), (0, [0])], []⟩
@[go_sem] theorem ann110_imm : ann110.imm = [] := rfl
@[go_sem] theorem ann110_frz : ann110.frz = [] := rfl
@[go_sem] theorem ann110_live : ann110.live = [(1, [2]), (0, [0])] := rfl
@[go_sem] theorem ann110_head : ann110.head = [] := rfl
@[go_sem] def lv111 : List (Nat × List Nat) := [(10, [4]), (9, [25, 23, 24]), (8, [4]), (7, [23, 24, 25, 36]), (6, [23, 24, 25, 7]), (5, [23, 24, 25, 6]), (4, [23, 24, 25, 26]), (3, [25, 23, 24]), (2, [4]), (1, [0, 21]), (0, [0, 1])]
def ann111 : Ann := ⟨[], [], lv111, [(4, [25, 23, 24])]⟩
@[go_sem] theorem ann111_imm : ann111.imm = [] := rfl
@[go_sem] theorem ann111_frz : ann111.frz = [] := rfl
@[go_sem] theorem ann111_live : ann111.live = lv111 := rfl
@[go_sem] theorem ann111_head : ann111.head = [(4, [25, 23, 24])] := rfl
@[go_sem] def lv119 : List (Nat × List Nat) := [(10, [6]), (9, [17, 2, 1, 15, 16]), (8, [6]), (7, [2, 1, 15, 16, 17, 30]), (6, [2, 1, 15, 16, 17, 9, 8]), (5, [2, 1, 15, 16, 17, 8, 7]), (4, [2, 1, 15, 16, 17, 18]), (3, [17, 2, 1, 15, 16]), (2, [6]), (1, [2, 1, 0, 14]), (0, [2, 1, 0])]
def ann119 : Ann := ⟨[], [], lv119, [(4, [17, 2, 1, 15, 16])]⟩
@[go_sem] theorem ann119_imm : ann119.imm = [] := rfl
@[go_sem] theorem ann119_frz : ann119.frz = [] := rfl
@[go_sem] theorem ann119_live : ann119.live = lv119 := rfl
@[go_sem] theorem ann119_head : ann119.head = [(4, [17, 2, 1, 15, 16])] := rfl
@[go_sem] def lv121 : List (Nat × List Nat) := [(9, [6, 7]), (8, [6, 7]), (7, [6, 5, 4, 3, 27]), (6, [6, 5, 4, 3, 8]), (5, [6, 5, 4, 3, 8]), (4, [6, 7]), (3, [6, 5, 4, 3, 22]), (2, [6, 7]), (1, [6, 5, 4, 3, 11]), (0, [6, 5, 4, 3])]
def ann121 : Ann := ⟨[3, 4, 5], [], lv121, []⟩
@[go_sem] theorem ann121_imm : ann121.imm = [3, 4, 5] := rfl
@[go_sem] theorem ann121_frz : ann121.frz = [] := rfl
@[go_sem] theorem ann121_live : ann121.live = lv121 := rfl
@[go_sem] theorem ann121_head : ann121.head = [] := rfl
def ann124 : Ann := ⟨[2, 3], [], [(1, [4]), (0, [3, 2])], []⟩
@[go_sem] theorem ann124_imm : ann124.imm = [2, 3] := rfl
@[go_sem] theorem ann124_frz : ann124.frz = [] := rfl
@[go_sem] theorem ann124_live : ann124.live = [(1, [4]), (0, [3, 2])] := rfl
@[go_sem] theorem ann124_head : ann124.head = [] := rfl
@[go_sem] def lv125 : List (Nat × List Nat) := [(7, [4]), (6, [8, 0, 1, 7]), (5, [4]), (4, [5, 0, 1, 7, 8, 16]), (3, [5, 0, 1, 7, 8]), (2, [0, 1, 7, 8, 9]), (1, [8, 0, 1, 7]), (0, [0, 1])]
def ann125 : Ann := ⟨[], [], lv125, [(2, [8, 0, 1, 7])]⟩
@[go_sem] theorem ann125_imm : ann125.imm = [] := rfl
@[go_sem] theorem ann125_frz : ann125.frz = [] := rfl
@[go_sem] theorem ann125_live : ann125.live = lv125 := rfl
@[go_sem] theorem ann125_head : ann125.head = [(2, [8, 0, 1, 7])] := rfl
def ann145 : Ann := ⟨[], [], [(1, [2]), (0, [0])], []⟩
@[go_sem] theorem ann145_imm : ann145.imm = [] := rfl
@[go_sem] theorem ann145_frz : ann145.frz = [] := rfl
@[go_sem] theorem ann145_live : ann145.live = [(1, [2]), (0, [0])] := rfl
@[go_sem] theorem ann145_head : ann145.head = [] := rfl
def ann148 : Ann := ⟨[1], [], [(1, [2]), (0, [2, 1])], []⟩
@[go_sem] theorem ann148_imm : ann148.imm = [1] := rfl
@[go_sem] theorem ann148_frz : ann148.frz = [] := rfl
@[go_sem] theorem ann148_live : ann148.live = [(1, [2]), (0, [2, 1])] := rfl
@[go_sem] theorem ann148_head : ann148.head = [] := rfl
def ann149 : Ann := ⟨[], [], [(1, [2]), (0, [2, 0])], []⟩
@[go_sem] theorem ann149_imm : ann149.imm = [] := rfl
@[go_sem] theorem ann149_frz : ann149.frz = [] := rfl
@[go_sem] theorem ann149_live : ann149.live = [(1, [2]), (0, [2, 0])] := rfl
@[go_sem] theorem ann149_head : ann149.head = [] := rfl
def ann150 : Ann := ⟨[2, 3], [], [(1, [4]), (0, [3, 2])], []⟩
@[go_sem] theorem ann150_imm : ann150.imm = [2, 3] := rfl
@[go_sem] theorem ann150_frz : ann150.frz = [] := rfl
@[go_sem] theorem ann150_live : ann150.live = [(1, [4]), (0, [3, 2])] := rfl
@[go_sem] theorem ann150_head : ann150.head = [] := rfl
@[go_sem] def lv151 : List (Nat × List Nat) := [(17, [6]), (16, [72, 8, 2, 0, 70, 6, 71]), (15, [8, 2, 0, 70, 6, 71, 72]), (14, [8, 2, 0, 70, 6, 71, 72, 10]), (13, [8, 2, 0, 70, 6, 71, 72, 73]), (12, [72, 8, 2, 0, 70, 6, 71]), (11, [8, 2, 0, 6, 4]), (10, [8, 0, 6, 4, 2, 66]), (9, [8, 0, 6, 4, 2]), (8, [0, 6, 4, 2]), (7, [6]), (6, [6, 7]), (5, [6, 7, 0]), (4, [6, 0, 2, 4, 27]), (3, [6]), (2, [6]), (1, [6, 0, 2, 4, 15]), (0, [6, 0, 2, 4])]
def ann151 : Ann := ⟨[4], [], lv151, [(13, [72, 8, 2, 0, 70, 6, 71])]⟩
@[go_sem] theorem ann151_imm : ann151.imm = [4] := rfl
@[go_sem] theorem ann151_frz : ann151.frz = [] := rfl
@[go_sem] theorem ann151_live : ann151.live = lv151 := rfl
@[go_sem] theorem ann151_head : ann151.head = [(13, [72, 8, 2, 0, 70, 6, 71])] := rfl
@[go_sem] def lv154 : List (Nat × List Nat) := [(9, [2]), (2, [2]), (4, [2]), (6, [2]), (8, [2]), (7, [21]), (5, [1, 18]), (3, [1, 12]), (1, [1, 3]), (0, [1])]
def ann154 : Ann := ⟨[1], [], lv154, []⟩
@[go_sem] theorem ann154_imm : ann154.imm = [1] := rfl
@[go_sem] theorem ann154_frz : ann154.frz = [] := rfl
@[go_sem] theorem ann154_live : ann154.live = lv154 := rfl
@[go_sem] theorem ann154_head : ann154.head = [] := rfl
def ann155 : Ann := ⟨[], [], [(3, [2]), (2, [7, 3, 0, 5]), (1, [3, 0, 5, 4]), (0, [0])], []⟩
@[go_sem] theorem ann155_imm : ann155.imm = [] := rfl
@[go_sem] theorem ann155_frz : ann155.frz = [] := rfl
@[go_sem] theorem ann155_live : ann155.live = [(3, [2]), (2, [7, 3, 0, 5]), (1, [3, 0, 5, 4]), (0, [0])] := rfl
@[go_sem] theorem ann155_head : ann155.head = [] := rfl
def ann156 : Ann := ⟨[1], [], [(1, [2]), (0, [1])], []⟩
@[go_sem] theorem ann156_imm : ann156.imm = [1] := rfl
@[go_sem] theorem ann156_frz : ann156.frz = [] := rfl
@[go_sem] theorem ann156_live : ann156.live = [(1, [2]), (0, [1])] := rfl
@[go_sem] theorem ann156_head : ann156.head = [] := rfl
def ann157 : Ann := ⟨[1], [], [(2, [2]), (1, [4]), (0, [1])], []⟩
@[go_sem] theorem ann157_imm : ann157.imm = [1] := rfl
@[go_sem] theorem ann157_frz : ann157.frz = [] := rfl
@[go_sem] theorem ann157_live : ann157.live = [(2, [2]), (1, [4]), (0, [1])] := rfl
@[go_sem] theorem ann157_head : ann157.head = [] := rfl
def ann158 : Ann := ⟨[1], [], [(1, [2]), (0, [1])], []⟩
@[go_sem] theorem ann158_imm : ann158.imm = [1] := rfl
@[go_sem] theorem ann158_frz : ann158.frz = [] := rfl
@[go_sem] theorem ann158_live : ann158.live = [(1, [2]), (0, [1])] := rfl
@[go_sem] theorem ann158_head : ann158.head = [] := rfl
@[go_sem] def lv159 : List (Nat × List Nat) := [(6, [2]), (3, [3, 0]), (5, [2]), (4, [0, 3, 19]), (2, [0, 3, 7]), (1, [3, 0]), (0, [0])]
def ann159 : Ann := ⟨[], [], lv159, [(2, [3, 0])]⟩
@[go_sem] theorem ann159_imm : ann159.imm = [] := rfl
@[go_sem] theorem ann159_frz : ann159.frz = [] := rfl
@[go_sem] theorem ann159_live : ann159.live = lv159 := rfl
@[go_sem] theorem ann159_head : ann159.head = [(2, [3, 0])] := rfl
def ann160 : Ann := ⟨[], [], [(1, [2]), (0, [0])], []⟩
@[go_sem] theorem ann160_imm : ann160.imm = [] := rfl
@[go_sem] theorem ann160_frz : ann160.frz = [] := rfl
@[go_sem] theorem ann160_live : ann160.live = [(1, [2]), (0, [0])] := rfl
@[go_sem] theorem ann160_head : ann160.head = [] := rfl
@[go_sem] def lv161 : List (Nat × List Nat) := [(9, [2]), (8, [15, 13, 14]), (7, [2]), (6, [13, 14, 15, 21]), (5, [13, 14, 15, 4]), (4, [13, 14, 15, 16]), (3, [15, 13, 14]), (2, [2]), (1, [0, 11]), (0, [0])]
def ann161 : Ann := ⟨[], [], lv161, [(4, [15, 13, 14])]⟩
@[go_sem] theorem ann161_imm : ann161.imm = [] := rfl
@[go_sem] theorem ann161_frz : ann161.frz = [] := rfl
@[go_sem] theorem ann161_live : ann161.live = lv161 := rfl
@[go_sem] theorem ann161_head : ann161.head = [(4, [15, 13, 14])] := rfl
def ann162 : Ann := ⟨[1], [], [(1, [2]), (0, [1])], []⟩
@[go_sem] theorem ann162_imm : ann162.imm = [1] := rfl
@[go_sem] theorem ann162_frz : ann162.frz = [] := rfl
@[go_sem] theorem ann162_live : ann162.live = [(1, [2]), (0, [1])] := rfl
@[go_sem] theorem ann162_head : ann162.head = [] := rfl
@[go_sem] def lv163 : List (Nat × List Nat) := [(7, [2]), (6, [2]), (5, [16]), (4, [2]), (3, [0, 14]), (2, [2]), (1, [0, 8]), (0, [0])]
def ann163 : Ann := ⟨[], [], lv163, []⟩
@[go_sem] theorem ann163_imm : ann163.imm = [] := rfl
@[go_sem] theorem ann163_frz : ann163.frz = [] := rfl
@[go_sem] theorem ann163_live : ann163.live = lv163 := rfl
@[go_sem] theorem ann163_head : ann163.head = [] := rfl
@[go_sem] def lv164 : List (Nat × List Nat) := [(6, [2]), (3, [3, 0]), (5, [2]), (4, [0, 3, 15]), (2, [0, 3, 7]), (1, [3, 0]), (0, [0])]
def ann164 : Ann := ⟨[], [], lv164, [(2, [3, 0])]⟩
@[go_sem] theorem ann164_imm : ann164.imm = [] := rfl
@[go_sem] theorem ann164_frz : ann164.frz = [] := rfl
@[go_sem] theorem ann164_live : ann164.live = lv164 := rfl
@[go_sem] theorem ann164_head : ann164.head = [(2, [3, 0])] := rfl
@[go_sem] def lv165 : List (Nat × List Nat) := [(9, [2]), (5, [3, 0]), (8, [2]), (7, [5, 3, 0]), (6, [3, 0, 18]), (4, [3, 0, 12]), (3, [3, 0]), (2, [2]), (1, [0, 8]), (0, [0])]
def ann165 : Ann := ⟨[], [], lv165, [(4, [3, 0])]⟩
@[go_sem] theorem ann165_imm : ann165.imm = [] := rfl
@[go_sem] theorem ann165_frz : ann165.frz = [] := rfl
@[go_sem] theorem ann165_live : ann165.live = lv165 := rfl
@[go_sem] theorem ann165_head : ann165.head = [(4, [3, 0])] := rfl
def ann166 : Ann := ⟨[], [], [(1, [2]), (0, [0])], []⟩
@[go_sem] theorem ann166_imm : ann166.imm = [] := rfl
@[go_sem] theorem ann166_frz : ann166.frz = [] := rfl
@[go_sem] theorem ann166_live : ann166.live = [(1, [2]), (0, [0])] := rfl
@[go_sem] theorem ann166_head : ann166.head = [] := rfl
def ann167 : Ann := ⟨[1], [], [(1, [2]), (0, [1])], []⟩
@[go_sem] theorem ann167_imm : ann167.imm = [1] := rfl
@[go_sem] theorem ann167_frz : ann167.frz = [] := rfl
@[go_sem] theorem ann167_live : ann167.live = [(1, [2]), (0, [1])] := rfl
@[go_sem] theorem ann167_head : ann167.head = [] := rfl
def ann171 : Ann := ⟨[], [], [(1, [2]), (0, [0])], []⟩
@[go_sem] theorem ann171_imm : ann171.imm = [] := rfl
@[go_sem] theorem ann171_frz : ann171.frz = [] := rfl
@[go_sem] theorem ann171_live : ann171.live = [(1, [2]), (0, [0])] := rfl
@[go_sem] theorem ann171_head : ann171.head = [] := rfl
def ann172 : Ann := ⟨[], [], [(1, [2]), (0, [0])], []⟩
@[go_sem] theorem ann172_imm : ann172.imm = [] := rfl
@[go_sem] theorem ann172_frz : ann172.frz = [] := rfl
@[go_sem] theorem ann172_live : ann172.live = [(1, [2]), (0, [0])] := rfl
@[go_sem] theorem ann172_head : ann172.head = [] := rfl
@[go_sem] def lv173 : List (Nat × List Nat) := [(11, [2]), (2, [2]), (4, [2]), (6, [2]), (8, [2]), (10, [2]), (9, [27]), (7, [0, 24]), (5, [0, 17]), (3, [0, 10]), (1, [0, 3]), (0, [0])]
def ann173 : Ann := ⟨[], [], lv173, []⟩
@[go_sem] theorem ann173_imm : ann173.imm = [] := rfl
@[go_sem] theorem ann173_frz : ann173.frz = [] := rfl
@[go_sem] theorem ann173_live : ann173.live = lv173 := rfl
@[go_sem] theorem ann173_head : ann173.head = [] := rfl
@[go_sem] def lv188 : List (Nat × List Nat) := [(9, [27, 2, 1, 25, 26]), (8, [2, 1, 25, 26, 27]), (7, [2, 1, 25, 26, 27, 7]), (6, [2, 1, 25, 26, 27, 28]), (5, [27, 2, 1, 25, 26]), (4, [2, 1, 3]), (3, [2, 3, 1, 21]), (2, [2, 3, 1]), (1, [2, 3, 1, 15]), (0, [2, 3, 1])]
def ann188 : Ann := ⟨[3], [], lv188, [(6, [27, 2, 1, 25, 26])]⟩
@[go_sem] theorem ann188_imm : ann188.imm = [3] := rfl
@[go_sem] theorem ann188_frz : ann188.frz = [] := rfl
@[go_sem] theorem ann188_live : ann188.live = lv188 := rfl
@[go_sem] theorem ann188_head : ann188.head = [(6, [27, 2, 1, 25, 26])] := rfl
@[go_sem] def lv189 : List (Nat × List Nat) := [(3, []), (2, [4, 26]), (1, [4, 2, 3, 7, 5]), (0, [4, 2, 3, 5, 1])]
def ann189 : Ann := ⟨[5], [], lv189, []⟩
@[go_sem] theorem ann189_imm : ann189.imm = [5] := rfl
@[go_sem] theorem ann189_frz : ann189.frz = [] := rfl
@[go_sem] theorem ann189_live : ann189.live = lv189 := rfl
@[go_sem] theorem ann189_head : ann189.head = [] := rfl
@[go_sem] def lv191 : List (Nat × List Nat) := [(9, [4]), (8, [16, 3, 2, 15]), (7, [4]), (6, [3, 2, 15, 16, 30]), (5, [3, 2, 15, 16, 5]), (4, [3, 2, 15, 16, 17]), (3, [16, 3, 2, 15]), (2, [4]), (1, [3, 2, 12]), (0, [3, 2])]
def ann191 : Ann := ⟨[2, 3], [], lv191, [(4, [16, 3, 2, 15])]⟩
@[go_sem] theorem ann191_imm : ann191.imm = [2, 3] := rfl
@[go_sem] theorem ann191_frz : ann191.frz = [] := rfl
@[go_sem] theorem ann191_live : ann191.live = lv191 := rfl
@[go_sem] theorem ann191_head : ann191.head = [(4, [16, 3, 2, 15])] := rfl
@[go_sem] def lv209 : List (Nat × List Nat) := [(7, [4]), (6, [8, 0, 1, 7]), (5, [4]), (4, [5, 0, 1, 7, 8, 16]), (3, [5, 0, 1, 7, 8]), (2, [0, 1, 7, 8, 9]), (1, [8, 0, 1, 7]), (0, [0, 1])]
def ann209 : Ann := ⟨[], [], lv209, [(2, [8, 0, 1, 7])]⟩
@[go_sem] theorem ann209_imm : ann209.imm = [] := rfl
@[go_sem] theorem ann209_frz : ann209.frz = [] := rfl
@[go_sem] theorem ann209_live : ann209.live = lv209 := rfl
@[go_sem] theorem ann209_head : ann209.head = [(2, [8, 0, 1, 7])] := rfl
def ann218 : Ann := ⟨[1], [], [(1, [2]), (0, [1])], []⟩
@[go_sem] theorem ann218_imm : ann218.imm = [1] := rfl
@[go_sem] theorem ann218_frz : ann218.frz = [] := rfl
@[go_sem] theorem ann218_live : ann218.live = [(1, [2]), (0, [1])] := rfl
@[go_sem] theorem ann218_head : ann218.head = [] := rfl
@[go_sem] def lv219 : List (Nat × List Nat) := [(7, [2]), (6, [9, 3, 7, 2, 8]), (5, [3, 7, 2, 8, 9]), (4, [3, 7, 2, 8, 9, 5]), (3, [3, 7, 2, 8, 9, 10]), (2, [9, 3, 7, 2, 8]), (1, [3, 2, 1]), (0, [2, 1])]
def ann219 : Ann := ⟨[1], [], lv219, [(3, [9, 3, 7, 2, 8])]⟩
@[go_sem] theorem ann219_imm : ann219.imm = [1] := rfl
@[go_sem] theorem ann219_frz : ann219.frz = [] := rfl
@[go_sem] theorem ann219_live : ann219.live = lv219 := rfl
@[go_sem] theorem ann219_head : ann219.head = [(3, [9, 3, 7, 2, 8])] := rfl
@[go_sem] def lv220 : List (Nat × List Nat) := [(3, [6]), (2, [6]), (1, [6, 3, 4, 17]), (0, [6, 3, 4, 2, 1])]
def ann220 : Ann := ⟨[4], [], lv220, []⟩
@[go_sem] theorem ann220_imm : ann220.imm = [4] := rfl
@[go_sem] theorem ann220_frz : ann220.frz = [] := rfl
@[go_sem] theorem ann220_live : ann220.live = lv220 := rfl
@[go_sem] theorem ann220_head : ann220.head = [] := rfl
def ann222 : Ann := ⟨[], [], [(1, [4, 5, 6]), (0, [1, 0])], []⟩
@[go_sem] theorem ann222_imm : ann222.imm = [] := rfl
@[go_sem] theorem ann222_frz : ann222.frz = [] := rfl
@[go_sem] theorem ann222_live : ann222.live = [(1, [4, 5, 6]), (0, [1, 0])] := rfl
@[go_sem] theorem ann222_head : ann222.head = [] := rfl
@[go_sem] def lv223 : List (Nat × List Nat) := [(12, [2, 3]), (11, [2, 3]), (10, [6, 41]), (9, [6, 7]), (8, [23, 21, 0, 22]), (7, [2, 3]), (6, [21, 0, 22, 23, 29]), (5, [21, 0, 22, 23, 5]), (4, [21, 0, 22, 23, 24]), (3, [23, 21, 0, 22]), (2, [2, 3]), (1, [0, 19]), (0, [0])]
def ann223 : Ann := ⟨[], [], lv223, [(4, [23, 21, 0, 22])]⟩
@[go_sem] theorem ann223_imm : ann223.imm = [] := rfl
@[go_sem] theorem ann223_frz : ann223.frz = [] := rfl
@[go_sem] theorem ann223_live : ann223.live = lv223 := rfl
@[go_sem] theorem ann223_head : ann223.head = [(4, [23, 21, 0, 22])] := rfl
@[go_sem] def lv224 : List (Nat × List Nat) := [(12, [6, 7]), (11, [34, 8, 2, 1, 32, 33]), (10, [8, 2, 1, 32, 33, 34]), (9, [6, 7]), (8, [2, 1, 32, 33, 34, 11, 8, 49]), (7, [2, 1, 32, 33, 34, 11, 8, 12]), (6, [2, 1, 32, 33, 34, 8, 10]), (5, [2, 1, 32, 33, 34, 8, 35]), (4, [34, 8, 2, 1, 32, 33]), (3, [8, 2, 1, 3]), (2, [6, 7]), (1, [2, 1, 3, 30]), (0, [2, 1, 3])]
def ann224 : Ann := ⟨[3], [], lv224, [(5, [34, 8, 2, 1, 32, 33])]⟩
@[go_sem] theorem ann224_imm : ann224.imm = [3] := rfl
@[go_sem] theorem ann224_frz : ann224.frz = [] := rfl
@[go_sem] theorem ann224_live : ann224.live = lv224 := rfl
@[go_sem] theorem ann224_head : ann224.head = [(5, [34, 8, 2, 1, 32, 33])] := rfl
@[go_sem] def lv225 : List (Nat × List Nat) := [(6, [2]), (3, [3, 0]), (5, [2]), (4, [0, 3, 20]), (2, [0, 3, 7]), (1, [3, 0]), (0, [0])]
def ann225 : Ann := ⟨[], [], lv225, [(2, [3, 0])]⟩
@[go_sem] theorem ann225_imm : ann225.imm = [] := rfl
@[go_sem] theorem ann225_frz : ann225.frz = [] := rfl
@[go_sem] theorem ann225_live : ann225.live = lv225 := rfl
@[go_sem] theorem ann225_head : ann225.head = [(2, [3, 0])] := rfl
@[go_sem] def lv226 : List (Nat × List Nat) := [(6, [2]), (3, [3, 0]), (5, [2]), (4, [0, 3, 19]), (2, [0, 3, 7]), (1, [3, 0]), (0, [0])]
def ann226 : Ann := ⟨[], [], lv226, [(2, [3, 0])]⟩
@[go_sem] theorem ann226_imm : ann226.imm = [] := rfl
@[go_sem] theorem ann226_frz : ann226.frz = [] := rfl
@[go_sem] theorem ann226_live : ann226.live = lv226 := rfl
@[go_sem] theorem ann226_head : ann226.head = [(2, [3, 0])] := rfl
@[go_sem] def lv227 : List (Nat × List Nat) := [(12, [2, 3]), (11, [2, 3]), (10, [4, 40]), (6, [5, 0, 4]), (9, [0, 4, 5]), (8, [2, 3]), (7, [0, 5, 4, 29]), (5, [0, 5, 4, 22]), (4, [5, 0, 4]), (3, [0, 4]), (2, [2, 3]), (1, [0, 18]), (0, [0])]
def ann227 : Ann := ⟨[], [], lv227, [(5, [5, 0, 4])]⟩
@[go_sem] theorem ann227_imm : ann227.imm = [] := rfl
@[go_sem] theorem ann227_frz : ann227.frz = [] := rfl
@[go_sem] theorem ann227_live : ann227.live = lv227 := rfl
@[go_sem] theorem ann227_head : ann227.head = [(5, [5, 0, 4])] := rfl
@[go_sem] def lv228 : List (Nat × List Nat) := [(8, [6]), (6, [7, 2, 1, 3]), (7, [2, 1, 3, 7]), (5, [2, 3, 7, 1, 36]), (4, [7, 2, 1, 3]), (3, [2, 1, 3]), (2, [6]), (1, [2, 3, 1, 25]), (0, [2, 3, 1])]
def ann228 : Ann := ⟨[3], [], lv228, [(5, [7, 2, 1, 3])]⟩
@[go_sem] theorem ann228_imm : ann228.imm = [3] := rfl
@[go_sem] theorem ann228_frz : ann228.frz = [] := rfl
@[go_sem] theorem ann228_live : ann228.live = lv228 := rfl
@[go_sem] theorem ann228_head : ann228.head = [(5, [7, 2, 1, 3])] := rfl
@[go_sem] def lv230 : List (Nat × List Nat) := [(6, [2]), (3, [3, 0]), (5, [2]), (4, [0, 3, 14]), (2, [0, 3, 7]), (1, [3, 0]), (0, [0])]
def ann230 : Ann := ⟨[], [], lv230, [(2, [3, 0])]⟩
@[go_sem] theorem ann230_imm : ann230.imm = [] := rfl
@[go_sem] theorem ann230_frz : ann230.frz = [] := rfl
@[go_sem] theorem ann230_live : ann230.live = lv230 := rfl
@[go_sem] theorem ann230_head : ann230.head = [(2, [3, 0])] := rfl
def ann254 : Ann := ⟨[1], [], [(1, [2]), (0, [1])], []⟩
@[go_sem] theorem ann254_imm : ann254.imm = [1] := rfl
@[go_sem] theorem ann254_frz : ann254.frz = [] := rfl
@[go_sem] theorem ann254_live : ann254.live = [(1, [2]), (0, [1])] := rfl
@[go_sem] theorem ann254_head : ann254.head = [] := rfl
@[go_sem] def lv275 : List (Nat × List Nat) := [(4, [4, 5, 6]), (3, [4, 5, 6]), (2, [1, 7, 0, 12]), (1, [1, 7, 0]), (0, [1, 0])]
def ann275 : Ann := ⟨[], [], lv275, []⟩
@[go_sem] theorem ann275_imm : ann275.imm = [] := rfl
@[go_sem] theorem ann275_frz : ann275.frz = [] := rfl
@[go_sem] theorem ann275_live : ann275.live = lv275 := rfl
@[go_sem] theorem ann275_head : ann275.head = [] := rfl
def ann277 : Ann := ⟨[], [], [(1, [2]), (0, [0])], []⟩
@[go_sem] theorem ann277_imm : ann277.imm = [] := rfl
@[go_sem] theorem ann277_frz : ann277.frz = [] := rfl
@[go_sem] theorem ann277_live : ann277.live = [(1, [2]), (0, [0])] := rfl
@[go_sem] theorem ann277_head : ann277.head = [] := rfl
def ann278 : Ann := ⟨[], [], [(1, [2]), (0, [0])], []⟩
@[go_sem] theorem ann278_imm : ann278.imm = [] := rfl
@[go_sem] theorem ann278_frz : ann278.frz = [] := rfl
@[go_sem] theorem ann278_live : ann278.live = [(1, [2]), (0, [0])] := rfl
@[go_sem] theorem ann278_head : ann278.head = [] := rfl
@[go_sem] def lv287 : List (Nat × List Nat) := [(7, [6]), (5, [7, 2, 4, 0]), (6, [2, 4, 0, 7]), (4, [2, 4, 7, 0, 27]), (3, [7, 2, 4, 0]), (2, [6]), (1, [2, 4, 0, 16]), (0, [2, 4, 0])]
def ann287 : Ann := ⟨[4], [], lv287, [(4, [7, 2, 4, 0])]⟩
@[go_sem] theorem ann287_imm : ann287.imm = [4] := rfl
@[go_sem] theorem ann287_frz : ann287.frz = [] := rfl
@[go_sem] theorem ann287_live : ann287.live = lv287 := rfl
@[go_sem] theorem ann287_head : ann287.head = [(4, [7, 2, 4, 0])] := rfl
def ann303 : Ann := ⟨[], [], [(1, [2]), (0, [0])], []⟩
@[go_sem] theorem ann303_imm : ann303.imm = [] := rfl
@[go_sem] theorem ann303_frz : ann303.frz = [] := rfl
@[go_sem] theorem ann303_live : ann303.live = [(1, [2]), (0, [0])] := rfl
@[go_sem] theorem ann303_head : ann303.head = [] := rfl
@[go_sem] def lv307 : List (Nat × List Nat) := [(13, [4]), (12, [5]), (11, [1, 5, 42]), (5, [7, 0, 1, 5, 6]), (10, [0, 1, 5, 6, 7]), (9, [0, 1, 6, 7, 5, 33]), (8, [0, 1, 6, 7, 5]), (7, [0, 1, 7, 5]), (6, [0, 1, 7, 5, 6, 23]), (4, [0, 1, 7, 5, 6, 11]), (3, [7, 0, 1, 5, 6]), (2, [0, 1, 5, 6]), (1, [0, 1, 5]), (0, [0, 1])]
def ann307 : Ann := ⟨[], [], lv307, [(4, [7, 0, 1, 5, 6])]⟩
@[go_sem] theorem ann307_imm : ann307.imm = [] := rfl
@[go_sem] theorem ann307_frz : ann307.frz = [] := rfl
@[go_sem] theorem ann307_live : ann307.live = lv307 := rfl
@[go_sem] theorem ann307_head : ann307.head = [(4, [7, 0, 1, 5, 6])] := rfl
def ann308 : Ann := ⟨[2], [], [(3, [4]), (2, [4]), (1, [1, 7]), (0, [1, 2])], []⟩
@[go_sem] theorem ann308_imm : ann308.imm = [2] := rfl
@[go_sem] theorem ann308_frz : ann308.frz = [] := rfl
@[go_sem] theorem ann308_live : ann308.live = [(3, [4]), (2, [4]), (1, [1, 7]), (0, [1, 2])] := rfl
@[go_sem] theorem ann308_head : ann308.head = [] := rfl
theorem wf {f : FuncId} {fn : Func} {c : Code} {rv : List ResultVar} {args : List SV} {refs refs' : List Box} {r : PV} (A : Ann) (n : Nat) (hf : Tryz.prog.funcs[f]? = some fn) (h : argsFit args → AWp Tryz.prog A c (finK Tryz.prog rv r refs') (start args refs))
    (hb : fn.body = some c := by exact rfl) (hr : fn.results.toList = rv := by exact rfl) (hk : fnChk fn n args.length c = true := by kernel_rfl) (hlen : refs'.length = refs.length := by exact rfl) (hnm : (refs'.flatMap fun b => svNames b.c).all (isRefB refs.length) = true := by exact rfl) : Spec Tryz.prog f args refs r refs' :=
  Spec.walk A n hf mixed hb hr hk hlen hnm h
theorem wk {f : FuncId} {fn : Func} {c : Code} {rv : List ResultVar} {args : List SV} {refs refs' : List Box} {r : PV} (A : Ann) (n : Nat) (hf : Tryz.prog.funcs[f]? = some fn) (h : AWp Tryz.prog A c (finK Tryz.prog rv r refs') (start args refs))
    (hb : fn.body = some c := by exact rfl) (hr : fn.results.toList = rv := by exact rfl) (hk : fnChk fn n args.length c = true := by kernel_rfl) (hlen : refs'.length = refs.length := by exact rfl) (hnm : (refs'.flatMap fun b => svNames b.c).all (isRefB refs.length) = true := by exact rfl) : Spec Tryz.prog f args refs r refs' :=
  Spec.walk A n hf mixed hb hr hk hlen hnm fun _ => h
end Go.Abs.Kon

namespace Go.Abs.Kon
open Go Go.Proofs Go.Abs
def ann3 : Ann := ⟨[2, 3], [], [(10, [4]), (7, [4]), (9, [4]), (8, [6, 5, 3, 2, 35]), (6, [6, 5, 3, 2, 20]), (5, [6, 5, 3, 2]), (4, [4]), (3, [3, 2, 13]), (2, [4]), (1, [3, 2, 8]), (0, [3, 2])], []⟩
@[go_sem] theorem ann3_imm : ann3.imm = [2, 3] := rfl
@[go_sem] theorem ann3_frz : ann3.frz = [] := rfl
@[go_sem] theorem ann3_live : ann3.live = [(10, [4]), (7, [4]), (9, [4]), (8, [6, 5, 3, 2, 35]), (6, [6, 5, 3, 2, 20]), (5, [6, 5, 3, 2]), (4, [4]), (3, [3, 2, 13]), (2, [4]), (1, [3, 2, 8]), (0, [3, 2])] := rfl
@[go_sem] theorem ann3_head : ann3.head = [] := rfl
def ann8 : Ann := ⟨[], [], [(7, [0]), (6, [8, 9, 4, 5, 6]), (5, [4, 5, 6, 3, 1]), (4, [3, 1]), (3, [0]), (2, [1, 20]), (1, [1, 2]), (0, [])], []⟩
@[go_sem] theorem ann8_imm : ann8.imm = [] := rfl
@[go_sem] theorem ann8_frz : ann8.frz = [] := rfl
@[go_sem] theorem ann8_live : ann8.live = [(7, [0]), (6, [8, 9, 4, 5, 6]), (5, [4, 5, 6, 3, 1]), (4, [3, 1]), (3, [0]), (2, [1, 20]), (1, [1, 2]), (0, [])] := rfl
@[go_sem] theorem ann8_head : ann8.head = [] := rfl
def ann9 : Ann := ⟨[], [], [(2, [2]), (1, [3, 0]), (0, [0])], []⟩
@[go_sem] theorem ann9_imm : ann9.imm = [] := rfl
@[go_sem] theorem ann9_frz : ann9.frz = [] := rfl
@[go_sem] theorem ann9_live : ann9.live = [(2, [2]), (1, [3, 0]), (0, [0])] := rfl
@[go_sem] theorem ann9_head : ann9.head = [] := rfl
def ann10 : Ann := ⟨[2, 3], [], [(5, [4, 5]), (4, [4, 5]), (3, [3, 2, 21]), (2, [4, 5]), (1, [3, 2, 13]), (0, [3, 2])], []⟩
@[go_sem] theorem ann10_imm : ann10.imm = [2, 3] := rfl
@[go_sem] theorem ann10_frz : ann10.frz = [] := rfl
@[go_sem] theorem ann10_live : ann10.live = [(5, [4, 5]), (4, [4, 5]), (3, [3, 2, 21]), (2, [4, 5]), (1, [3, 2, 13]), (0, [3, 2])] := rfl
@[go_sem] theorem ann10_head : ann10.head = [] := rfl
def ann12 : Ann := ⟨[1], [], [(2, [2]), (1, [5]), (0, [1])], []⟩
@[go_sem] theorem ann12_imm : ann12.imm = [1] := rfl
@[go_sem] theorem ann12_frz : ann12.frz = [] := rfl
@[go_sem] theorem ann12_live : ann12.live = [(2, [2]), (1, [5]), (0, [1])] := rfl
@[go_sem] theorem ann12_head : ann12.head = [] := rfl
def ann16 : Ann := ⟨[], [], [(41, [4, 5]), (40, [4, 5]), (39, [4, 10, 131]), (38, [4, 109, 6, 107, 10, 108]), (37, [4, 6, 107, 10, 108, 109]), (36, [4, 5]), (35, [4, 16, 6, 107, 10, 108, 109, 15, 13, 120]), (34, [4, 16, 6, 107, 10, 108, 109, 15, 13]), (33, [4, 6, 107, 10, 108, 109, 13, 14]), (32, [4, 6, 107, 10, 108, 109, 110]), (31, [4, 109, 6, 107, 10, 108]), (30, [4, 5]), (29, [4, 6, 10, 104]), (28, [4, 6, 10]), (27, [4, 6, 10, 11]), (26, [87, 10, 4, 6, 0, 86]), (25, [10, 4, 6, 0, 86, 87]), (24, [10, 4, 6, 0, 86, 87, 88]), (23, [87, 10, 4, 6, 0, 86]), (22, [10, 4, 6, 0]), (21, [4, 46, 6, 1, 44, 0, 45]), (20, [4, 6, 1, 44, 0, 45, 46]), (19, [4, 6, 1, 44, 0, 45, 46, 9, 8]), (18, [4, 6, 1, 44, 0, 45, 46, 9, 8, 69]), (17, [4, 6, 1, 44, 0, 45, 46, 9, 8]), (16, [4, 5]), (15, [4, 6, 1, 44, 0, 45, 46, 8, 63]), (14, [4, 6, 1, 44, 0, 45, 46, 8, 7]), (13, [4, 6, 1, 44, 0, 45, 46, 47]), (12, [4, 46, 6, 1, 44, 0, 45]), (11, [4, 6, 1, 0]), (10, [4, 1, 0]), (9, [4, 1, 0]), (2, [4, 5]), (4, [4, 5]), (6, [4, 5]), (8, [4, 5]), (7, [4, 0, 1, 35]), (5, [4, 0, 1, 30]), (3, [4, 0, 1, 25]), (1, [4, 0, 1, 17]), (0, [4, 0, 1])], [(32, [4, 109, 6, 107, 10, 108]), (24, [87, 10, 4, 6, 0, 86]), (13, [4, 46, 6, 1, 44, 0, 45])]⟩
@[go_sem] theorem ann16_imm : ann16.imm = [] := rfl
@[go_sem] theorem ann16_frz : ann16.frz = [] := rfl
@[go_sem] theorem ann16_live : ann16.live = [(41, [4, 5]), (40, [4, 5]), (39, [4, 10, 131]), (38, [4, 109, 6, 107, 10, 108]), (37, [4, 6, 107, 10, 108, 109]), (36, [4, 5]), (35, [4, 16, 6, 107, 10, 108, 109, 15, 13, 120]), (34, [4, 16, 6, 107, 10, 108, 109, 15, 13]), (33, [4, 6, 107, 10, 108, 109, 13, 14]), (32, [4, 6, 107, 10, 108, 109, 110]), (31, [4, 109, 6, 107, 10, 108]), (30, [4, 5]), (29, [4, 6, 10, 104]), (28, [4, 6, 10]), (27, [4, 6, 10, 11]), (26, [87, 10, 4, 6, 0, 86]), (25, [10, 4, 6, 0, 86, 87]), (24, [10, 4, 6, 0, 86, 87, 88]), (23, [87, 10, 4, 6, 0, 86]), (22, [10, 4, 6, 0]), (21, [4, 46, 6, 1, 44, 0, 45]), (20, [4, 6, 1, 44, 0, 45, 46]), (19, [4, 6, 1, 44, 0, 45, 46, 9, 8]), (18, [4, 6, 1, 44, 0, 45, 46, 9, 8, 69]), (17, [4, 6, 1, 44, 0, 45, 46, 9, 8]), (16, [4, 5]), (15, [4, 6, 1, 44, 0, 45, 46, 8, 63]), (14, [4, 6, 1, 44, 0, 45, 46, 8, 7]), (13, [4, 6, 1, 44, 0, 45, 46, 47]), (12, [4, 46, 6, 1, 44, 0, 45]), (11, [4, 6, 1, 0]), (10, [4, 1, 0]), (9, [4, 1, 0]), (2, [4, 5]), (4, [4, 5]), (6, [4, 5]), (8, [4, 5]), (7, [4, 0, 1, 35]), (5, [4, 0, 1, 30]), (3, [4, 0, 1, 25]), (1, [4, 0, 1, 17]), (0, [4, 0, 1])] := rfl
@[go_sem] theorem ann16_head : ann16.head = [(32, [4, 109, 6, 107, 10, 108]), (24, [87, 10, 4, 6, 0, 86]), (13, [4, 46, 6, 1, 44, 0, 45])] := rfl
def ann20 : Ann := ⟨[1], [], [(2, [2]), (1, [4]), (0, [1])], []⟩
@[go_sem] theorem ann20_imm : ann20.imm = [1] := rfl
@[go_sem] theorem ann20_frz : ann20.frz = [] := rfl
@[go_sem] theorem ann20_live : ann20.live = [(2, [2]), (1, [4]), (0, [1])] := rfl
@[go_sem] theorem ann20_head : ann20.head = [] := rfl
def ann40 : Ann := ⟨[], [], [(3, [0, 1]), (2, [0, 3]), (1, [0, 2]), (0, [0])], []⟩
@[go_sem] theorem ann40_imm : ann40.imm = [] := rfl
@[go_sem] theorem ann40_frz : ann40.frz = [] := rfl
@[go_sem] theorem ann40_live : ann40.live = [(3, [0, 1]), (2, [0, 3]), (1, [0, 2]), (0, [0])] := rfl
@[go_sem] theorem ann40_head : ann40.head = [] := rfl
def ann44 : Ann := ⟨[2], [], [(1, [3]), (0, [1, 2])], []⟩
@[go_sem] theorem ann44_imm : ann44.imm = [2] := rfl
@[go_sem] theorem ann44_frz : ann44.frz = [] := rfl
@[go_sem] theorem ann44_live : ann44.live = [(1, [3]), (0, [1, 2])] := rfl
@[go_sem] theorem ann44_head : ann44.head = [] := rfl
def ann45 : Ann := ⟨[3, 5], [], [(4, [6]), (3, [6]), (2, [4, 5, 3, 43]), (1, [4, 5, 3]), (0, [4, 5, 3])], []⟩
@[go_sem] theorem ann45_imm : ann45.imm = [3, 5] := rfl
@[go_sem] theorem ann45_frz : ann45.frz = [] := rfl
@[go_sem] theorem ann45_live : ann45.live = [(4, [6]), (3, [6]), (2, [4, 5, 3, 43]), (1, [4, 5, 3]), (0, [4, 5, 3])] := rfl
@[go_sem] theorem ann45_head : ann45.head = [] := rfl
def ann49 : Ann := ⟨[1], [], [(15, [2, 3, 4]), (12, [2, 7, 6, 5]), (14, [2, 3, 4]), (13, [2, 6, 5, 7, 72]), (11, [2, 6, 5, 7, 63]), (10, [2, 7, 6, 5]), (9, [2, 3, 4]), (8, [2, 6, 5, 57]), (7, [5, 6, 2, 1]), (6, [6, 2, 1, 5]), (5, [6, 2, 1, 5, 34]), (4, [5, 6, 2, 1]), (3, [5, 2, 1]), (2, [2, 3, 4]), (1, [2, 1, 15]), (0, [2, 1])], [(11, [2, 7, 6, 5]), (5, [5, 6, 2, 1])]⟩
@[go_sem] theorem ann49_imm : ann49.imm = [1] := rfl
@[go_sem] theorem ann49_frz : ann49.frz = [] := rfl
@[go_sem] theorem ann49_live : ann49.live = [(15, [2, 3, 4]), (12, [2, 7, 6, 5]), (14, [2, 3, 4]), (13, [2, 6, 5, 7, 72]), (11, [2, 6, 5, 7, 63]), (10, [2, 7, 6, 5]), (9, [2, 3, 4]), (8, [2, 6, 5, 57]), (7, [5, 6, 2, 1]), (6, [6, 2, 1, 5]), (5, [6, 2, 1, 5, 34]), (4, [5, 6, 2, 1]), (3, [5, 2, 1]), (2, [2, 3, 4]), (1, [2, 1, 15]), (0, [2, 1])] := rfl
@[go_sem] theorem ann49_head : ann49.head = [(11, [2, 7, 6, 5]), (5, [5, 6, 2, 1])] := rfl
def ann62 : Ann := ⟨[], [], [(8, [2, 3]), (7, [13, 4, 2, 12]), (6, [4, 2, 12, 13]), (5, [4, 2, 12, 13, 14]), (4, [13, 4, 2, 12]), (3, [4, 2, 0]), (2, [2, 3]), (1, [2, 0, 10]), (0, [2, 0])], [(5, [13, 4, 2, 12])]⟩
@[go_sem] theorem ann62_imm : ann62.imm = [] := rfl
@[go_sem] theorem ann62_frz : ann62.frz = [] := rfl
@[go_sem] theorem ann62_live : ann62.live = [(8, [2, 3]), (7, [13, 4, 2, 12]), (6, [4, 2, 12, 13]), (5, [4, 2, 12, 13, 14]), (4, [13, 4, 2, 12]), (3, [4, 2, 0]), (2, [2, 3]), (1, [2, 0, 10]), (0, [2, 0])] := rfl
@[go_sem] theorem ann62_head : ann62.head = [(5, [13, 4, 2, 12])] := rfl
def ann69 : Ann := ⟨[1], [], [(11, [2, 3]), (10, [2, 3]), (9, [2, 5, 4, 69]), (8, [2, 5, 4, 6, 1, 7]), (7, [2, 3]), (6, [2, 5, 4, 1, 54]), (5, [5, 4, 2, 1]), (4, [5, 2, 1, 4, 30]), (3, [5, 4, 2, 1]), (2, [2, 3]), (1, [2, 1, 15]), (0, [2, 1])], [(4, [5, 4, 2, 1])]⟩
@[go_sem] theorem ann69_imm : ann69.imm = [1] := rfl
@[go_sem] theorem ann69_frz : ann69.frz = [] := rfl
@[go_sem] theorem ann69_live : ann69.live = [(11, [2, 3]), (10, [2, 3]), (9, [2, 5, 4, 69]), (8, [2, 5, 4, 6, 1, 7]), (7, [2, 3]), (6, [2, 5, 4, 1, 54]), (5, [5, 4, 2, 1]), (4, [5, 2, 1, 4, 30]), (3, [5, 4, 2, 1]), (2, [2, 3]), (1, [2, 1, 15]), (0, [2, 1])] := rfl
@[go_sem] theorem ann69_head : ann69.head = [(4, [5, 4, 2, 1])] := rfl
def ann99 : Ann := ⟨[], [], [(1, [2]), (0, [0])], []⟩
@[go_sem] theorem ann99_imm : ann99.imm = [] := rfl
@[go_sem] theorem ann99_frz : ann99.frz = [] := rfl
@[go_sem] theorem ann99_live : ann99.live = [(1, [2]), (0, [0])] := rfl
@[go_sem] theorem ann99_head : ann99.head = [] := rfl
def ann100 : Ann := ⟨[2], [], [(2, [4]), (1, [3, 2]), (0, [3, 2])], []⟩
@[go_sem] theorem ann100_imm : ann100.imm = [2] := rfl
@[go_sem] theorem ann100_frz : ann100.frz = [] := rfl
@[go_sem] theorem ann100_live : ann100.live = [(2, [4]), (1, [3, 2]), (0, [3, 2])] := rfl
@[go_sem] theorem ann100_head : ann100.head = [] := rfl
def ann101 : Ann := ⟨[3], [], [(1, [4]), (0, [2, 1, 3])], []⟩
@[go_sem] theorem ann101_imm : ann101.imm = [3] := rfl
@[go_sem] theorem ann101_frz : ann101.frz = [] := rfl
@[go_sem] theorem ann101_live : ann101.live = [(1, [4]), (0, [2, 1, 3])] := rfl
@[go_sem] theorem ann101_head : ann101.head = [] := rfl
def ann107 : Ann := ⟨[1], [], [(1, [2]), (0, [1])], []⟩
@[go_sem] theorem ann107_imm : ann107.imm = [1] := rfl
@[go_sem] theorem ann107_frz : ann107.frz = [] := rfl
@[go_sem] theorem ann107_live : ann107.live = [(1, [2]), (0, [1])] := rfl
@[go_sem] theorem ann107_head : ann107.head = [] := rfl
def ann108 : Ann := ⟨[2, 3], [], [(1, [4]), (0, [3, 2])], []⟩
@[go_sem] theorem ann108_imm : ann108.imm = [2, 3] := rfl
@[go_sem] theorem ann108_frz : ann108.frz = [] := rfl
@[go_sem] theorem ann108_live : ann108.live = [(1, [4]), (0, [3, 2])] := rfl
@[go_sem] theorem ann108_head : ann108.head = [] := rfl
def ann109 : Ann := ⟨[], [], [(6, [2]), (4, [4, 3, 2, 0]), (5, [3, 2, 0, 4]), (3, [3, 2, 0, 4, 7]), (2, [4, 3, 2, 0]), (1, [3, 2, 0]), (0, [2, 0])], [(3, [4, 3, 2, 0])]⟩
@[go_sem] theorem ann109_imm : ann109.imm = [] := rfl
@[go_sem] theorem ann109_frz : ann109.frz = [] := rfl
@[go_sem] theorem ann109_live : ann109.live = [(6, [2]), (4, [4, 3, 2, 0]), (5, [3, 2, 0, 4]), (3, [3, 2, 0, 4, 7]), (2, [4, 3, 2, 0]), (1, [3, 2, 0]), (0, [2, 0])] := rfl
@[go_sem] theorem ann109_head : ann109.head = [(3, [4, 3, 2, 0])] := rfl
def ann115 : Ann := ⟨[2, 3], [], [(1, [4]), (0, [4, 3, 2])], []⟩
@[go_sem] theorem ann115_imm : ann115.imm = [2, 3] := rfl
@[go_sem] theorem ann115_frz : ann115.frz = [] := rfl
@[go_sem] theorem ann115_live : ann115.live = [(1, [4]), (0, [4, 3, 2])] := rfl
@[go_sem] theorem ann115_head : ann115.head = [] := rfl
def ann116 : Ann := ⟨[], [], [(1, [0]), (0, [0])], []⟩
@[go_sem] theorem ann116_imm : ann116.imm = [] := rfl
@[go_sem] theorem ann116_frz : ann116.frz = [] := rfl
@[go_sem] theorem ann116_live : ann116.live = [(1, [0]), (0, [0])] := rfl
@[go_sem] theorem ann116_head : ann116.head = [] := rfl
def ann122 : Ann := ⟨[1], [], [(1, [2]), (0, [1])], []⟩
@[go_sem] theorem ann122_imm : ann122.imm = [1] := rfl
@[go_sem] theorem ann122_frz : ann122.frz = [] := rfl
@[go_sem] theorem ann122_live : ann122.live = [(1, [2]), (0, [1])] := rfl
@[go_sem] theorem ann122_head : ann122.head = [] := rfl
def ann123 : Ann := ⟨[], [], [(1, [2]), (0, [0])], []⟩
@[go_sem] theorem ann123_imm : ann123.imm = [] := rfl
@[go_sem] theorem ann123_frz : ann123.frz = [] := rfl
@[go_sem] theorem ann123_live : ann123.live = [(1, [2]), (0, [0])] := rfl
@[go_sem] theorem ann123_head : ann123.head = [] := rfl
def ann152 : Ann := ⟨[], [], [(1, [4]), (0, [1, 0])], []⟩
@[go_sem] theorem ann152_imm : ann152.imm = [] := rfl
@[go_sem] theorem ann152_frz : ann152.frz = [] := rfl
@[go_sem] theorem ann152_live : ann152.live = [(1, [4]), (0, [1, 0])] := rfl
@[go_sem] theorem ann152_head : ann152.head = [] := rfl
def ann153 : Ann := ⟨[2], [], [(1, [3]), (0, [1, 2])], []⟩
@[go_sem] theorem ann153_imm : ann153.imm = [2] := rfl
@[go_sem] theorem ann153_frz : ann153.frz = [] := rfl
@[go_sem] theorem ann153_live : ann153.live = [(1, [3]), (0, [1, 2])] := rfl
@[go_sem] theorem ann153_head : ann153.head = [] := rfl
def ann168 : Ann := ⟨[1], [], [(8, [2]), (5, [3, 1]), (7, [2]), (6, [1, 3, 32]), (4, [1, 3, 23]), (3, [3, 1]), (2, [2]), (1, [1, 18]), (0, [1])], [(4, [3, 1])]⟩
@[go_sem] theorem ann168_imm : ann168.imm = [1] := rfl
@[go_sem] theorem ann168_frz : ann168.frz = [] := rfl
@[go_sem] theorem ann168_live : ann168.live = [(8, [2]), (5, [3, 1]), (7, [2]), (6, [1, 3, 32]), (4, [1, 3, 23]), (3, [3, 1]), (2, [2]), (1, [1, 18]), (0, [1])] := rfl
@[go_sem] theorem ann168_head : ann168.head = [(4, [3, 1])] := rfl
def ann169 : Ann := ⟨[2, 3], [], [(8, [4]), (5, [5, 3, 2]), (7, [4]), (6, [3, 2, 5, 31]), (4, [3, 2, 5, 17]), (3, [5, 3, 2]), (2, [4]), (1, [3, 2, 12]), (0, [3, 2])], [(4, [5, 3, 2])]⟩
@[go_sem] theorem ann169_imm : ann169.imm = [2, 3] := rfl
@[go_sem] theorem ann169_frz : ann169.frz = [] := rfl
@[go_sem] theorem ann169_live : ann169.live = [(8, [4]), (5, [5, 3, 2]), (7, [4]), (6, [3, 2, 5, 31]), (4, [3, 2, 5, 17]), (3, [5, 3, 2]), (2, [4]), (1, [3, 2, 12]), (0, [3, 2])] := rfl
@[go_sem] theorem ann169_head : ann169.head = [(4, [5, 3, 2])] := rfl
def ann170 : Ann := ⟨[2, 3], [], [(1, [4]), (0, [4, 3, 2])], []⟩
@[go_sem] theorem ann170_imm : ann170.imm = [2, 3] := rfl
@[go_sem] theorem ann170_frz : ann170.frz = [] := rfl
@[go_sem] theorem ann170_live : ann170.live = [(1, [4]), (0, [4, 3, 2])] := rfl
@[go_sem] theorem ann170_head : ann170.head = [] := rfl
def ann190 : Ann := ⟨[1], [], [(3, [2]), (2, [2]), (1, [1, 17]), (0, [1])], []⟩
@[go_sem] theorem ann190_imm : ann190.imm = [1] := rfl
@[go_sem] theorem ann190_frz : ann190.frz = [] := rfl
@[go_sem] theorem ann190_live : ann190.live = [(3, [2]), (2, [2]), (1, [1, 17]), (0, [1])] := rfl
@[go_sem] theorem ann190_head : ann190.head = [] := rfl
def ann221 : Ann := ⟨[], [], [(7, [4]), (6, [8, 0, 1, 7]), (5, [4]), (4, [5, 0, 1, 7, 8, 16]), (3, [5, 0, 1, 7, 8]), (2, [0, 1, 7, 8, 9]), (1, [8, 0, 1, 7]), (0, [0, 1])], [(2, [8, 0, 1, 7])]⟩
@[go_sem] theorem ann221_imm : ann221.imm = [] := rfl
@[go_sem] theorem ann221_frz : ann221.frz = [] := rfl
@[go_sem] theorem ann221_live : ann221.live = [(7, [4]), (6, [8, 0, 1, 7]), (5, [4]), (4, [5, 0, 1, 7, 8, 16]), (3, [5, 0, 1, 7, 8]), (2, [0, 1, 7, 8, 9]), (1, [8, 0, 1, 7]), (0, [0, 1])] := rfl
@[go_sem] theorem ann221_head : ann221.head = [(2, [8, 0, 1, 7])] := rfl
def ann229 : Ann := ⟨[1], [], [(4, [2]), (3, [1, 3]), (2, [2]), (1, [1, 14]), (0, [1])], []⟩
@[go_sem] theorem ann229_imm : ann229.imm = [1] := rfl
@[go_sem] theorem ann229_frz : ann229.frz = [] := rfl
@[go_sem] theorem ann229_live : ann229.live = [(4, [2]), (3, [1, 3]), (2, [2]), (1, [1, 14]), (0, [1])] := rfl
@[go_sem] theorem ann229_head : ann229.head = [] := rfl
def ann238 : Ann := ⟨[1], [], [(4, [2]), (3, [3, 4]), (2, [2]), (1, [1, 15]), (0, [1])], []⟩
@[go_sem] theorem ann238_imm : ann238.imm = [1] := rfl
@[go_sem] theorem ann238_frz : ann238.frz = [] := rfl
@[go_sem] theorem ann238_live : ann238.live = [(4, [2]), (3, [3, 4]), (2, [2]), (1, [1, 15]), (0, [1])] := rfl
@[go_sem] theorem ann238_head : ann238.head = [] := rfl
def ann239 : Ann := ⟨[1], [], [(1, [2]), (0, [1])], []⟩
@[go_sem] theorem ann239_imm : ann239.imm = [1] := rfl
@[go_sem] theorem ann239_frz : ann239.frz = [] := rfl
@[go_sem] theorem ann239_live : ann239.live = [(1, [2]), (0, [1])] := rfl
@[go_sem] theorem ann239_head : ann239.head = [] := rfl
def ann279 : Ann := ⟨[2], [], [(7, [4]), (4, [6, 1, 5]), (6, [4]), (5, [1, 5, 6, 20]), (3, [1, 5, 6, 12]), (2, [6, 1, 5]), (1, [1, 5]), (0, [1, 2])], [(3, [6, 1, 5])]⟩
@[go_sem] theorem ann279_imm : ann279.imm = [2] := rfl
@[go_sem] theorem ann279_frz : ann279.frz = [] := rfl
@[go_sem] theorem ann279_live : ann279.live = [(7, [4]), (4, [6, 1, 5]), (6, [4]), (5, [1, 5, 6, 20]), (3, [1, 5, 6, 12]), (2, [6, 1, 5]), (1, [1, 5]), (0, [1, 2])] := rfl
@[go_sem] theorem ann279_head : ann279.head = [(3, [6, 1, 5])] := rfl
def ann282 : Ann := ⟨[2], [19], [(5, [4]), (4, [3, 2]), (3, [3, 2, 14]), (2, [4]), (1, [3, 2, 7]), (0, [3, 2])], []⟩
@[go_sem] theorem ann282_imm : ann282.imm = [2] := rfl
@[go_sem] theorem ann282_frz : ann282.frz = [19] := rfl
@[go_sem] theorem ann282_live : ann282.live = [(5, [4]), (4, [3, 2]), (3, [3, 2, 14]), (2, [4]), (1, [3, 2, 7]), (0, [3, 2])] := rfl
@[go_sem] theorem ann282_head : ann282.head = [] := rfl
def ann304 : Ann := ⟨[], [], [(1, [2]), (0, [0])], []⟩
@[go_sem] theorem ann304_imm : ann304.imm = [] := rfl
@[go_sem] theorem ann304_frz : ann304.frz = [] := rfl
@[go_sem] theorem ann304_live : ann304.live = [(1, [2]), (0, [0])] := rfl
@[go_sem] theorem ann304_head : ann304.head = [] := rfl
def ann305 : Ann := ⟨[2], [], [(1, [3]), (0, [1, 2])], []⟩
@[go_sem] theorem ann305_imm : ann305.imm = [2] := rfl
@[go_sem] theorem ann305_frz : ann305.frz = [] := rfl
@[go_sem] theorem ann305_live : ann305.live = [(1, [3]), (0, [1, 2])] := rfl
@[go_sem] theorem ann305_head : ann305.head = [] := rfl
end Go.Abs.Kon

namespace Go.Abs.Kon
open Go Go.Proofs Go.Abs
def ann21 : Ann := ⟨[], [], [(1, [4]), (0, [1, 0])], []⟩
@[go_sem] theorem ann21_imm : ann21.imm = [] := rfl
@[go_sem] theorem ann21_frz : ann21.frz = [] := rfl
@[go_sem] theorem ann21_live : ann21.live = [(1, [4]), (0, [1, 0])] := rfl
@[go_sem] theorem ann21_head : ann21.head = [] := rfl
def ann41 : Ann := ⟨[3], [], [(15, [6, 7, 8]), (14, [6, 7, 8]), (13, [6, 8, 10, 58]), (12, [6, 8, 10]), (11, [6, 7, 8]), (10, [6, 10, 50]), (9, [6, 10, 8]), (8, [6, 10, 11]), (7, [6, 10, 11]), (6, [6, 7, 8]), (5, [6, 8, 10, 2, 36]), (4, [6, 8, 10, 2]), (3, [6, 7, 8]), (2, [6, 8, 10, 2, 9, 3, 25]), (1, [6, 8, 10, 2, 9, 3]), (0, [6, 2, 3, 1])], []⟩
@[go_sem] theorem ann41_imm : ann41.imm = [3] := rfl
@[go_sem] theorem ann41_frz : ann41.frz = [] := rfl
@[go_sem] theorem ann41_live : ann41.live = [(15, [6, 7, 8]), (14, [6, 7, 8]), (13, [6, 8, 10, 58]), (12, [6, 8, 10]), (11, [6, 7, 8]), (10, [6, 10, 50]), (9, [6, 10, 8]), (8, [6, 10, 11]), (7, [6, 10, 11]), (6, [6, 7, 8]), (5, [6, 8, 10, 2, 36]), (4, [6, 8, 10, 2]), (3, [6, 7, 8]), (2, [6, 8, 10, 2, 9, 3, 25]), (1, [6, 8, 10, 2, 9, 3]), (0, [6, 2, 3, 1])] := rfl
@[go_sem] theorem ann41_head : ann41.head = [] := rfl
def ann55 : Ann := ⟨[1], [], [(1, [2]), (0, [1])], []⟩
@[go_sem] theorem ann55_imm : ann55.imm = [1] := rfl
@[go_sem] theorem ann55_frz : ann55.frz = [] := rfl
@[go_sem] theorem ann55_live : ann55.live = [(1, [2]), (0, [1])] := rfl
@[go_sem] theorem ann55_head : ann55.head = [] := rfl
def ann57 : Ann := ⟨[], [], [(3, [2]), (2, [2]), (1, [0, 4]), (0, [0])], []⟩
@[go_sem] theorem ann57_imm : ann57.imm = [] := rfl
@[go_sem] theorem ann57_frz : ann57.frz = [] := rfl
@[go_sem] theorem ann57_live : ann57.live = [(3, [2]), (2, [2]), (1, [0, 4]), (0, [0])] := rfl
@[go_sem] theorem ann57_head : ann57.head = [] := rfl
def ann63 : Ann := ⟨[1], [], [(6, [2, 3]), (5, [2, 3]), (4, [2, 4, 16]), (3, [2, 4, 5]), (2, [2, 3]), (1, [2, 1, 8]), (0, [2, 1])], []⟩
@[go_sem] theorem ann63_imm : ann63.imm = [1] := rfl
@[go_sem] theorem ann63_frz : ann63.frz = [] := rfl
@[go_sem] theorem ann63_live : ann63.live = [(6, [2, 3]), (5, [2, 3]), (4, [2, 4, 16]), (3, [2, 4, 5]), (2, [2, 3]), (1, [2, 1, 8]), (0, [2, 1])] := rfl
@[go_sem] theorem ann63_head : ann63.head = [] := rfl
def ann66 : Ann := ⟨[1], [], [(6, [2, 3]), (5, [2, 3]), (4, [2, 4, 16]), (3, [2, 4, 5]), (2, [2, 3]), (1, [2, 1, 8]), (0, [2, 1])], []⟩
@[go_sem] theorem ann66_imm : ann66.imm = [1] := rfl
@[go_sem] theorem ann66_frz : ann66.frz = [] := rfl
@[go_sem] theorem ann66_live : ann66.live = [(6, [2, 3]), (5, [2, 3]), (4, [2, 4, 16]), (3, [2, 4, 5]), (2, [2, 3]), (1, [2, 1, 8]), (0, [2, 1])] := rfl
@[go_sem] theorem ann66_head : ann66.head = [] := rfl
def ann67 : Ann := ⟨[1], [], [(1, [2]), (0, [1])], []⟩
@[go_sem] theorem ann67_imm : ann67.imm = [1] := rfl
@[go_sem] theorem ann67_frz : ann67.frz = [] := rfl
@[go_sem] theorem ann67_live : ann67.live = [(1, [2]), (0, [1])] := rfl
@[go_sem] theorem ann67_head : ann67.head = [] := rfl
def ann68 : Ann := ⟨[3, 4, 5], [], [(8, [6, 7]), (7, [6, 7]), (6, [6, 11, 21]), (5, [6, 11, 9]), (4, [6, 9, 5, 10]), (3, [6, 9, 5, 10, 8, 4, 3]), (2, [6, 9, 5, 8, 4, 3]), (1, [6, 5, 8, 4, 3]), (0, [6, 5, 4, 3])], []⟩
@[go_sem] theorem ann68_imm : ann68.imm = [3, 4, 5] := rfl
@[go_sem] theorem ann68_frz : ann68.frz = [] := rfl
@[go_sem] theorem ann68_live : ann68.live = [(8, [6, 7]), (7, [6, 7]), (6, [6, 11, 21]), (5, [6, 11, 9]), (4, [6, 9, 5, 10]), (3, [6, 9, 5, 10, 8, 4, 3]), (2, [6, 9, 5, 8, 4, 3]), (1, [6, 5, 8, 4, 3]), (0, [6, 5, 4, 3])] := rfl
@[go_sem] theorem ann68_head : ann68.head = [] := rfl
def ann70 : Ann := ⟨[], [], [(7, [4]), (6, [8, 0, 1, 7]), (5, [4]), (4, [5, 0, 1, 7, 8, 16]), (3, [5, 0, 1, 7, 8]), (2, [0, 1, 7, 8, 9]), (1, [8, 0, 1, 7]), (0, [0, 1])], [(2, [8, 0, 1, 7])]⟩
@[go_sem] theorem ann70_imm : ann70.imm = [] := rfl
@[go_sem] theorem ann70_frz : ann70.frz = [] := rfl
@[go_sem] theorem ann70_live : ann70.live = [(7, [4]), (6, [8, 0, 1, 7]), (5, [4]), (4, [5, 0, 1, 7, 8, 16]), (3, [5, 0, 1, 7, 8]), (2, [0, 1, 7, 8, 9]), (1, [8, 0, 1, 7]), (0, [0, 1])] := rfl
@[go_sem] theorem ann70_head : ann70.head = [(2, [8, 0, 1, 7])] := rfl
def ann93 : Ann := ⟨[], [], [(1, [2]), (0, [2, 0])], []⟩
@[go_sem] theorem ann93_imm : ann93.imm = [] := rfl
@[go_sem] theorem ann93_frz : ann93.frz = [] := rfl
@[go_sem] theorem ann93_live : ann93.live = [(1, [2]), (0, [2, 0])] := rfl
@[go_sem] theorem ann93_head : ann93.head = [] := rfl
def ann94 : Ann := ⟨[3], [], [(9, [6, 7, 8]), (8, [6, 7, 10, 11, 9]), (7, [6, 7, 8]), (6, [6, 7, 9, 1, 35]), (5, [6, 7, 8]), (4, [6, 7, 10, 9, 1, 2, 27]), (3, [6, 7, 10, 9, 1, 2]), (2, [6, 7, 8]), (1, [6, 7, 1, 2, 3, 18]), (0, [6, 7, 1, 2, 3])], []⟩
@[go_sem] theorem ann94_imm : ann94.imm = [3] := rfl
@[go_sem] theorem ann94_frz : ann94.frz = [] := rfl
@[go_sem] theorem ann94_live : ann94.live = [(9, [6, 7, 8]), (8, [6, 7, 10, 11, 9]), (7, [6, 7, 8]), (6, [6, 7, 9, 1, 35]), (5, [6, 7, 8]), (4, [6, 7, 10, 9, 1, 2, 27]), (3, [6, 7, 10, 9, 1, 2]), (2, [6, 7, 8]), (1, [6, 7, 1, 2, 3, 18]), (0, [6, 7, 1, 2, 3])] := rfl
@[go_sem] theorem ann94_head : ann94.head = [] := rfl
def ann117 : Ann := ⟨[1, 7], [], [(3, [2, 3]), (2, [2, 4, 5]), (1, [2, 4, 1]), (0, [2, 1])], []⟩
@[go_sem] theorem ann117_imm : ann117.imm = [1, 7] := rfl
@[go_sem] theorem ann117_frz : ann117.frz = [] := rfl
@[go_sem] theorem ann117_live : ann117.live = [(3, [2, 3]), (2, [2, 4, 5]), (1, [2, 4, 1]), (0, [2, 1])] := rfl
@[go_sem] theorem ann117_head : ann117.head = [] := rfl
def ann118 : Ann := ⟨[1], [], [(10, [2]), (9, [19, 3, 17, 2, 18]), (8, [3, 17, 2, 18, 19]), (7, [3, 17, 2, 18, 19, 5]), (6, [3, 17, 2, 18, 19, 20]), (5, [19, 3, 17, 2, 18]), (4, [3, 2, 1]), (3, [3, 2, 1]), (2, [3, 2, 1]), (1, [3, 2, 1]), (0, [2, 1])], [(6, [19, 3, 17, 2, 18])]⟩
@[go_sem] theorem ann118_imm : ann118.imm = [1] := rfl
@[go_sem] theorem ann118_frz : ann118.frz = [] := rfl
@[go_sem] theorem ann118_live : ann118.live = [(10, [2]), (9, [19, 3, 17, 2, 18]), (8, [3, 17, 2, 18, 19]), (7, [3, 17, 2, 18, 19, 5]), (6, [3, 17, 2, 18, 19, 20]), (5, [19, 3, 17, 2, 18]), (4, [3, 2, 1]), (3, [3, 2, 1]), (2, [3, 2, 1]), (1, [3, 2, 1]), (0, [2, 1])] := rfl
@[go_sem] theorem ann118_head : ann118.head = [(6, [19, 3, 17, 2, 18])] := rfl
def ann120 : Ann := ⟨[7], [], [(23, [9]), (22, [9, 12, 90, 13, 6, 3, 88, 89]), (21, [9, 12, 13, 6, 3, 88, 89, 90]), (20, [9, 12, 13, 6, 3, 88, 89, 90, 15, 94]), (19, [9, 12, 13, 6, 3, 88, 89, 90, 15]), (18, [9, 12, 13, 6, 3, 88, 89, 90, 91]), (17, [9, 12, 90, 13, 6, 3, 88, 89]), (16, [9, 12, 13, 6, 3, 7]), (15, [9, 12, 6, 3, 7, 13, 84]), (14, [9, 12, 6, 3, 7, 13]), (13, [9, 12, 6, 3, 7, 1]), (12, [9, 12, 6, 3, 7, 1]), (11, [9]), (10, [9, 10]), (9, [9, 10, 2]), (8, [9, 10, 2, 3, 11]), (7, [9]), (6, [9, 7, 2, 3, 1, 4, 5, 39]), (5, [9, 7, 2, 3, 1, 4, 5, 6, 32]), (4, [9]), (3, [9, 7]), (2, [9, 7, 3, 2, 1, 4, 5, 6, 19]), (1, [9, 7, 3, 2, 1, 4, 5, 6]), (0, [9, 7, 3, 2, 1, 4, 5, 6])], [(18, [9, 12, 90, 13, 6, 3, 88, 89])]⟩
@[go_sem] theorem ann120_imm : ann120.imm = [7] := rfl
@[go_sem] theorem ann120_frz : ann120.frz = [] := rfl
@[go_sem] theorem ann120_live : ann120.live = [(23, [9]), (22, [9, 12, 90, 13, 6, 3, 88, 89]), (21, [9, 12, 13, 6, 3, 88, 89, 90]), (20, [9, 12, 13, 6, 3, 88, 89, 90, 15, 94]), (19, [9, 12, 13, 6, 3, 88, 89, 90, 15]), (18, [9, 12, 13, 6, 3, 88, 89, 90, 91]), (17, [9, 12, 90, 13, 6, 3, 88, 89]), (16, [9, 12, 13, 6, 3, 7]), (15, [9, 12, 6, 3, 7, 13, 84]), (14, [9, 12, 6, 3, 7, 13]), (13, [9, 12, 6, 3, 7, 1]), (12, [9, 12, 6, 3, 7, 1]), (11, [9]), (10, [9, 10]), (9, [9, 10, 2]), (8, [9, 10, 2, 3, 11]), (7, [9]), (6, [9, 7, 2, 3, 1, 4, 5, 39]), (5, [9, 7, 2, 3, 1, 4, 5, 6, 32]), (4, [9]), (3, [9, 7]), (2, [9, 7, 3, 2, 1, 4, 5, 6, 19]), (1, [9, 7, 3, 2, 1, 4, 5, 6]), (0, [9, 7, 3, 2, 1, 4, 5, 6])] := rfl
@[go_sem] theorem ann120_head : ann120.head = [(18, [9, 12, 90, 13, 6, 3, 88, 89])] := rfl
def ann143 : Ann := ⟨[1], [], [(1, [2]), (0, [1])], []⟩
@[go_sem] theorem ann143_imm : ann143.imm = [1] := rfl
@[go_sem] theorem ann143_frz : ann143.frz = [] := rfl
@[go_sem] theorem ann143_live : ann143.live = [(1, [2]), (0, [1])] := rfl
@[go_sem] theorem ann143_head : ann143.head = [] := rfl
def ann144 : Ann := ⟨[2], [], [(4, [4, 5]), (3, [4, 5]), (2, [4, 6, 2, 13]), (1, [4, 6, 2]), (0, [4, 2, 1])], []⟩
@[go_sem] theorem ann144_imm : ann144.imm = [2] := rfl
@[go_sem] theorem ann144_frz : ann144.frz = [] := rfl
@[go_sem] theorem ann144_live : ann144.live = [(4, [4, 5]), (3, [4, 5]), (2, [4, 6, 2, 13]), (1, [4, 6, 2]), (0, [4, 2, 1])] := rfl
@[go_sem] theorem ann144_head : ann144.head = [] := rfl
def ann185 : Ann := ⟨[3], [], [(21, [4]), (14, [4]), (20, [4]), (19, [4]), (18, [4]), (17, [4, 0, 8, 80]), (16, [4, 0, 8, 9]), (15, [4, 0, 5, 65]), (13, [4, 5, 0, 41]), (12, [4]), (11, [4, 5, 0, 39]), (10, [4, 5, 0]), (9, [20, 5, 0, 18, 4, 19]), (8, [5, 0, 18, 4, 19, 20]), (7, [5, 0, 18, 4, 19, 20, 7]), (6, [5, 0, 18, 4, 19, 20, 21]), (5, [20, 5, 0, 18, 4, 19]), (4, [5, 0, 4, 3]), (3, [5, 0, 4, 3]), (2, [4]), (1, [4, 0, 3, 13]), (0, [4, 0, 3])], [(6, [20, 5, 0, 18, 4, 19])]⟩
@[go_sem] theorem ann185_imm : ann185.imm = [3] := rfl
@[go_sem] theorem ann185_frz : ann185.frz = [] := rfl
@[go_sem] theorem ann185_live : ann185.live = [(21, [4]), (14, [4]), (20, [4]), (19, [4]), (18, [4]), (17, [4, 0, 8, 80]), (16, [4, 0, 8, 9]), (15, [4, 0, 5, 65]), (13, [4, 5, 0, 41]), (12, [4]), (11, [4, 5, 0, 39]), (10, [4, 5, 0]), (9, [20, 5, 0, 18, 4, 19]), (8, [5, 0, 18, 4, 19, 20]), (7, [5, 0, 18, 4, 19, 20, 7]), (6, [5, 0, 18, 4, 19, 20, 21]), (5, [20, 5, 0, 18, 4, 19]), (4, [5, 0, 4, 3]), (3, [5, 0, 4, 3]), (2, [4]), (1, [4, 0, 3, 13]), (0, [4, 0, 3])] := rfl
@[go_sem] theorem ann185_head : ann185.head = [(6, [20, 5, 0, 18, 4, 19])] := rfl
def ann186 : Ann := ⟨[1], [], [(7, [2]), (6, [9, 3, 7, 2, 8]), (5, [3, 7, 2, 8, 9]), (4, [3, 7, 2, 8, 9, 5]), (3, [3, 7, 2, 8, 9, 10]), (2, [9, 3, 7, 2, 8]), (1, [3, 2, 1]), (0, [2, 1])], [(3, [9, 3, 7, 2, 8])]⟩
@[go_sem] theorem ann186_imm : ann186.imm = [1] := rfl
@[go_sem] theorem ann186_frz : ann186.frz = [] := rfl
@[go_sem] theorem ann186_live : ann186.live = [(7, [2]), (6, [9, 3, 7, 2, 8]), (5, [3, 7, 2, 8, 9]), (4, [3, 7, 2, 8, 9, 5]), (3, [3, 7, 2, 8, 9, 10]), (2, [9, 3, 7, 2, 8]), (1, [3, 2, 1]), (0, [2, 1])] := rfl
@[go_sem] theorem ann186_head : ann186.head = [(3, [9, 3, 7, 2, 8])] := rfl
def ann236 : Ann := ⟨[3], [], [(7, [4]), (6, [4]), (5, [4]), (4, [4, 0, 3, 22]), (3, [4, 0, 3, 6, 5]), (2, [4]), (1, [4, 0, 3, 10]), (0, [4, 0, 3])], []⟩
@[go_sem] theorem ann236_imm : ann236.imm = [3] := rfl
@[go_sem] theorem ann236_frz : ann236.frz = [] := rfl
@[go_sem] theorem ann236_live : ann236.live = [(7, [4]), (6, [4]), (5, [4]), (4, [4, 0, 3, 22]), (3, [4, 0, 3, 6, 5]), (2, [4]), (1, [4, 0, 3, 10]), (0, [4, 0, 3])] := rfl
@[go_sem] theorem ann236_head : ann236.head = [] := rfl
def ann237 : Ann := ⟨[4, 5], [], [(10, [6]), (9, [6]), (8, [6]), (7, [6, 0, 7, 40]), (6, [6, 0, 7, 8]), (5, [6]), (4, [6, 0, 5, 4, 27]), (3, [6, 0, 5, 4]), (2, [6, 0, 5, 4, 20]), (1, [6, 0, 5, 4]), (0, [6, 0, 5, 4])], []⟩
@[go_sem] theorem ann237_imm : ann237.imm = [4, 5] := rfl
@[go_sem] theorem ann237_frz : ann237.frz = [] := rfl
@[go_sem] theorem ann237_live : ann237.live = [(10, [6]), (9, [6]), (8, [6]), (7, [6, 0, 7, 40]), (6, [6, 0, 7, 8]), (5, [6]), (4, [6, 0, 5, 4, 27]), (3, [6, 0, 5, 4]), (2, [6, 0, 5, 4, 20]), (1, [6, 0, 5, 4]), (0, [6, 0, 5, 4])] := rfl
@[go_sem] theorem ann237_head : ann237.head = [] := rfl
def ann281 : Ann := ⟨[1], [], [(8, [2, 3]), (7, [11, 3, 2, 9, 10]), (6, [3, 2, 9, 10, 11]), (5, [9, 10, 11, 7, 3, 6, 2]), (4, [9, 10, 11, 3, 2, 5]), (3, [9, 10, 11, 3, 2, 12]), (2, [11, 3, 2, 9, 10]), (1, [3, 2, 1]), (0, [3, 1])], [(3, [11, 3, 2, 9, 10])]⟩
@[go_sem] theorem ann281_imm : ann281.imm = [1] := rfl
@[go_sem] theorem ann281_frz : ann281.frz = [] := rfl
@[go_sem] theorem ann281_live : ann281.live = [(8, [2, 3]), (7, [11, 3, 2, 9, 10]), (6, [3, 2, 9, 10, 11]), (5, [9, 10, 11, 7, 3, 6, 2]), (4, [9, 10, 11, 3, 2, 5]), (3, [9, 10, 11, 3, 2, 12]), (2, [11, 3, 2, 9, 10]), (1, [3, 2, 1]), (0, [3, 1])] := rfl
@[go_sem] theorem ann281_head : ann281.head = [(3, [11, 3, 2, 9, 10])] := rfl
end Go.Abs.Kon

namespace Go.Abs.Kon
open Go Go.Proofs Go.Abs
def ann4 : Ann := ⟨[], [], [(25, [6]), (24, [116, 1, 15, 114, 115]), (23, [6]), (22, [1, 15, 114, 115, 116, 139]), (21, [1, 15, 114, 115, 116, 18, 17]), (20, [1, 15, 114, 115, 116, 117]), (19, [116, 1, 15, 114, 115]), (18, [6]), (17, [1, 15, 113]), (16, [6]), (15, [16, 1, 15, 102]), (14, [16, 1, 15, 0, 13, 14, 9]), (13, [1, 0, 13, 14, 9]), (12, [6]), (11, [9, 1, 0, 73]), (10, [6]), (9, [9, 1, 0, 10, 71]), (8, [9, 1, 0, 10, 11, 12]), (7, [9, 1, 0, 10, 8]), (6, [1, 0, 8]), (5, [1, 0, 7]), (4, [6]), (3, [1, 0, 2, 33]), (2, [6]), (1, [1, 0, 2, 20]), (0, [1, 0, 2])], [(20, [116, 1, 15, 114, 115])]⟩
@[go_sem] theorem ann4_imm : ann4.imm = [] := rfl
@[go_sem] theorem ann4_frz : ann4.frz = [] := rfl
@[go_sem] theorem ann4_live : ann4.live = [(25, [6]), (24, [116, 1, 15, 114, 115]), (23, [6]), (22, [1, 15, 114, 115, 116, 139]), (21, [1, 15, 114, 115, 116, 18, 17]), (20, [1, 15, 114, 115, 116, 117]), (19, [116, 1, 15, 114, 115]), (18, [6]), (17, [1, 15, 113]), (16, [6]), (15, [16, 1, 15, 102]), (14, [16, 1, 15, 0, 13, 14, 9]), (13, [1, 0, 13, 14, 9]), (12, [6]), (11, [9, 1, 0, 73]), (10, [6]), (9, [9, 1, 0, 10, 71]), (8, [9, 1, 0, 10, 11, 12]), (7, [9, 1, 0, 10, 8]), (6, [1, 0, 8]), (5, [1, 0, 7]), (4, [6]), (3, [1, 0, 2, 33]), (2, [6]), (1, [1, 0, 2, 20]), (0, [1, 0, 2])] := rfl
@[go_sem] theorem ann4_head : ann4.head = [(20, [116, 1, 15, 114, 115])] := rfl
def ann14 : Ann := ⟨[], [], [(3, [2]), (2, [2]), (1, [0, 10]), (0, [0])], []⟩
@[go_sem] theorem ann14_imm : ann14.imm = [] := rfl
@[go_sem] theorem ann14_frz : ann14.frz = [] := rfl
@[go_sem] theorem ann14_live : ann14.live = [(3, [2]), (2, [2]), (1, [0, 10]), (0, [0])] := rfl
@[go_sem] theorem ann14_head : ann14.head = [] := rfl
def ann18 : Ann := ⟨[1], [], [(2, [2, 3]), (1, [5, 4]), (0, [1])], []⟩
@[go_sem] theorem ann18_imm : ann18.imm = [1] := rfl
@[go_sem] theorem ann18_frz : ann18.frz = [] := rfl
@[go_sem] theorem ann18_live : ann18.live = [(2, [2, 3]), (1, [5, 4]), (0, [1])] := rfl
@[go_sem] theorem ann18_head : ann18.head = [] := rfl
def ann19 : Ann := ⟨[1], [], [(15, [2, 3]), (14, [22, 6, 4, 1, 20, 21]), (13, [6, 4, 1, 20, 21, 22]), (12, [2, 3]), (11, [5, 4, 1, 20, 21, 22, 9, 6, 46]), (10, [5, 4, 1, 20, 21, 22, 9, 6]), (9, [4, 1, 20, 21, 22, 9, 6, 8, 36]), (8, [4, 1, 20, 21, 22, 9, 6, 8]), (7, [4, 1, 20, 21, 22, 6, 8, 7]), (6, [4, 1, 20, 21, 22, 6, 23]), (5, [22, 6, 4, 1, 20, 21]), (4, [6, 4, 1]), (3, [2, 3]), (2, [5, 4, 1, 16]), (1, [5, 4, 1]), (0, [1])], [(6, [22, 6, 4, 1, 20, 21])]⟩
@[go_sem] theorem ann19_imm : ann19.imm = [1] := rfl
@[go_sem] theorem ann19_frz : ann19.frz = [] := rfl
@[go_sem] theorem ann19_live : ann19.live = [(15, [2, 3]), (14, [22, 6, 4, 1, 20, 21]), (13, [6, 4, 1, 20, 21, 22]), (12, [2, 3]), (11, [5, 4, 1, 20, 21, 22, 9, 6, 46]), (10, [5, 4, 1, 20, 21, 22, 9, 6]), (9, [4, 1, 20, 21, 22, 9, 6, 8, 36]), (8, [4, 1, 20, 21, 22, 9, 6, 8]), (7, [4, 1, 20, 21, 22, 6, 8, 7]), (6, [4, 1, 20, 21, 22, 6, 23]), (5, [22, 6, 4, 1, 20, 21]), (4, [6, 4, 1]), (3, [2, 3]), (2, [5, 4, 1, 16]), (1, [5, 4, 1]), (0, [1])] := rfl
@[go_sem] theorem ann19_head : ann19.head = [(6, [22, 6, 4, 1, 20, 21])] := rfl
def ann22 : Ann := ⟨[2], [], [(1, [3]), (0, [1, 2])], []⟩
@[go_sem] theorem ann22_imm : ann22.imm = [2] := rfl
@[go_sem] theorem ann22_frz : ann22.frz = [] := rfl
@[go_sem] theorem ann22_live : ann22.live = [(1, [3]), (0, [1, 2])] := rfl
@[go_sem] theorem ann22_head : ann22.head = [] := rfl
def ann52 : Ann := ⟨[], [], [(7, [2]), (6, [8, 3, 6, 7]), (5, [3, 6, 7, 8]), (4, [6, 7, 8, 5, 3]), (3, [6, 7, 8, 3, 9]), (2, [8, 3, 6, 7]), (1, [3, 0]), (0, [0])], [(3, [8, 3, 6, 7])]⟩
@[go_sem] theorem ann52_imm : ann52.imm = [] := rfl
@[go_sem] theorem ann52_frz : ann52.frz = [] := rfl
@[go_sem] theorem ann52_live : ann52.live = [(7, [2]), (6, [8, 3, 6, 7]), (5, [3, 6, 7, 8]), (4, [6, 7, 8, 5, 3]), (3, [6, 7, 8, 3, 9]), (2, [8, 3, 6, 7]), (1, [3, 0]), (0, [0])] := rfl
@[go_sem] theorem ann52_head : ann52.head = [(3, [8, 3, 6, 7])] := rfl
def ann53 : Ann := ⟨[1], [], [(1, [2]), (0, [1])], []⟩
@[go_sem] theorem ann53_imm : ann53.imm = [1] := rfl
@[go_sem] theorem ann53_frz : ann53.frz = [] := rfl
@[go_sem] theorem ann53_live : ann53.live = [(1, [2]), (0, [1])] := rfl
@[go_sem] theorem ann53_head : ann53.head = [] := rfl
end Go.Abs.Kon
