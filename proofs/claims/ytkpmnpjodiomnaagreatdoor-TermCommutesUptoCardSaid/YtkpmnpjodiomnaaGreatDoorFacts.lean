/- Closed facts on the types and functions of this program, printed by a program and checked by the kernel. -/
import Derived.Test.YtkpmnpjodiomnaaGreatDoorAbsC
import Derived.Test.YtkpmnpjodiomnaaGreatDoorProg
set_option linter.unusedSimpArgs false
set_option linter.unusedVariables false
namespace Go.Abs.Kon
open Go Go.Proofs Go.Abs
theorem mixed : Tryz.prog.follows .mixedOrders = true := by kernel_rfl
@[go_sem] theorem sz0 : szOf Tryz.prog 0 = some Sz.one := by kernel_rfl
@[go_sem] theorem eq0 : eqTOf Tryz.prog 0 = EqT.other := by kernel_rfl
@[go_sem] theorem cv0 : cvTOf Tryz.prog 0 = CvT.other := by kernel_rfl
@[go_sem] theorem sz1 : szOf Tryz.prog 1 = some Sz.one := by kernel_rfl
@[go_sem] theorem zo1 : zeroOf Tryz.prog 1 = some (Sz.one, SV.one (SC.pv PV.nilfn)) := by kernel_rfl
@[go_sem] theorem eq1 : eqTOf Tryz.prog 1 = EqT.other := by kernel_rfl
@[go_sem] theorem cv1 : cvTOf Tryz.prog 1 = CvT.other := by kernel_rfl
@[go_sem] theorem sz2 : szOf Tryz.prog 2 = some Sz.one := by kernel_rfl
@[go_sem] theorem zo2 : zeroOf Tryz.prog 2 = some (Sz.one, SV.one (SC.pv (PV.int IntKind.i64 0))) := by kernel_rfl
@[go_sem] theorem eq2 : eqTOf Tryz.prog 2 = EqT.other := by kernel_rfl
@[go_sem] theorem cv2 : cvTOf Tryz.prog 2 = CvT.int IntKind.i64 := by kernel_rfl
@[go_sem] theorem sz3 : szOf Tryz.prog 3 = some Sz.one := by kernel_rfl
@[go_sem] theorem zo3 : zeroOf Tryz.prog 3 = some (Sz.one, SV.one (SC.pv (PV.int IntKind.i64 0))) := by kernel_rfl
@[go_sem] theorem eq3 : eqTOf Tryz.prog 3 = EqT.other := by kernel_rfl
@[go_sem] theorem cv3 : cvTOf Tryz.prog 3 = CvT.int IntKind.i64 := by kernel_rfl
@[go_sem] theorem sz4 : szOf Tryz.prog 4 = some Sz.one := by kernel_rfl
@[go_sem] theorem zo4 : zeroOf Tryz.prog 4 = some (Sz.one, SV.one (SC.pv (PV.bool Bool.false))) := by kernel_rfl
@[go_sem] theorem eq4 : eqTOf Tryz.prog 4 = EqT.bool := by kernel_rfl
@[go_sem] theorem cv4 : cvTOf Tryz.prog 4 = CvT.other := by kernel_rfl
@[go_sem] theorem sz5 : szOf Tryz.prog 5 = some Sz.one := by kernel_rfl
@[go_sem] theorem zo5 : zeroOf Tryz.prog 5 = some (Sz.one, SV.one (SC.pv (PV.int IntKind.u8 0))) := by kernel_rfl
@[go_sem] theorem eq5 : eqTOf Tryz.prog 5 = EqT.other := by kernel_rfl
@[go_sem] theorem cv5 : cvTOf Tryz.prog 5 = CvT.int IntKind.u8 := by kernel_rfl
@[go_sem] theorem sz6 : szOf Tryz.prog 6 = some Sz.one := by kernel_rfl
@[go_sem] theorem zo6 : zeroOf Tryz.prog 6 = some (Sz.one, SV.one (SC.pv (PV.int IntKind.u8 0))) := by kernel_rfl
@[go_sem] theorem eq6 : eqTOf Tryz.prog 6 = EqT.other := by kernel_rfl
@[go_sem] theorem cv6 : cvTOf Tryz.prog 6 = CvT.int IntKind.u8 := by kernel_rfl
@[go_sem] theorem sz7 : szOf Tryz.prog 7 = some (Sz.agg 4) := by kernel_rfl
@[go_sem] theorem zo7 : zeroOf Tryz.prog 7 = some (Sz.agg 4, SV.agg [SC.pv (PV.int IntKind.i64 0), SC.pv (PV.int IntKind.i64 0), SC.pv (PV.bool Bool.false), SC.pv (PV.int IntKind.u8 0)]) := by kernel_rfl
@[go_sem] theorem pl7 : placesOf Tryz.prog 7 = some [(0, Sz.one), (1, Sz.one), (2, Sz.one), (3, Sz.one)] := by kernel_rfl
@[go_sem] theorem eq7 : eqTOf Tryz.prog 7 = EqT.other := by kernel_rfl
@[go_sem] theorem cv7 : cvTOf Tryz.prog 7 = CvT.other := by kernel_rfl
@[go_sem] theorem fo7_0 : fieldOff Tryz.prog 7 0 = some 0 := by kernel_rfl
@[go_sem] theorem fs7_0 : fieldSz Tryz.prog 7 0 = some Sz.one := by kernel_rfl
@[go_sem] theorem fo7_1 : fieldOff Tryz.prog 7 1 = some 1 := by kernel_rfl
@[go_sem] theorem fs7_1 : fieldSz Tryz.prog 7 1 = some Sz.one := by kernel_rfl
@[go_sem] theorem fo7_2 : fieldOff Tryz.prog 7 2 = some 2 := by kernel_rfl
@[go_sem] theorem fs7_2 : fieldSz Tryz.prog 7 2 = some Sz.one := by kernel_rfl
@[go_sem] theorem fo7_3 : fieldOff Tryz.prog 7 3 = some 3 := by kernel_rfl
@[go_sem] theorem fs7_3 : fieldSz Tryz.prog 7 3 = some Sz.one := by kernel_rfl
@[go_sem] theorem sz8 : szOf Tryz.prog 8 = some (Sz.agg 4) := by kernel_rfl
@[go_sem] theorem zo8 : zeroOf Tryz.prog 8 = some (Sz.agg 4, SV.agg [SC.pv (PV.int IntKind.i64 0), SC.pv (PV.int IntKind.i64 0), SC.pv (PV.bool Bool.false), SC.pv (PV.int IntKind.u8 0)]) := by kernel_rfl
@[go_sem] theorem pl8 : placesOf Tryz.prog 8 = some [(0, Sz.one), (1, Sz.one), (2, Sz.one), (3, Sz.one)] := by kernel_rfl
@[go_sem] theorem eq8 : eqTOf Tryz.prog 8 = EqT.other := by kernel_rfl
@[go_sem] theorem cv8 : cvTOf Tryz.prog 8 = CvT.other := by kernel_rfl
@[go_sem] theorem fo8_0 : fieldOff Tryz.prog 8 0 = some 0 := by kernel_rfl
@[go_sem] theorem fs8_0 : fieldSz Tryz.prog 8 0 = some Sz.one := by kernel_rfl
@[go_sem] theorem fo8_1 : fieldOff Tryz.prog 8 1 = some 1 := by kernel_rfl
@[go_sem] theorem fs8_1 : fieldSz Tryz.prog 8 1 = some Sz.one := by kernel_rfl
@[go_sem] theorem fo8_2 : fieldOff Tryz.prog 8 2 = some 2 := by kernel_rfl
@[go_sem] theorem fs8_2 : fieldSz Tryz.prog 8 2 = some Sz.one := by kernel_rfl
@[go_sem] theorem fo8_3 : fieldOff Tryz.prog 8 3 = some 3 := by kernel_rfl
@[go_sem] theorem fs8_3 : fieldSz Tryz.prog 8 3 = some Sz.one := by kernel_rfl
@[go_sem] theorem sz9 : szOf Tryz.prog 9 = some Sz.one := by kernel_rfl
@[go_sem] theorem zo9 : zeroOf Tryz.prog 9 = some (Sz.one, SV.one (SC.pv (PV.str ByteArray.empty))) := by kernel_rfl
@[go_sem] theorem eq9 : eqTOf Tryz.prog 9 = EqT.str := by kernel_rfl
@[go_sem] theorem cv9 : cvTOf Tryz.prog 9 = CvT.string := by kernel_rfl
@[go_sem] theorem sz10 : szOf Tryz.prog 10 = some Sz.one := by kernel_rfl
@[go_sem] theorem zo10 : zeroOf Tryz.prog 10 = some (Sz.one, SV.one (SC.pv (PV.str ByteArray.empty))) := by kernel_rfl
@[go_sem] theorem eq10 : eqTOf Tryz.prog 10 = EqT.str := by kernel_rfl
@[go_sem] theorem cv10 : cvTOf Tryz.prog 10 = CvT.string := by kernel_rfl
@[go_sem] theorem sz11 : szOf Tryz.prog 11 = some Sz.one := by kernel_rfl
@[go_sem] theorem zo11 : zeroOf Tryz.prog 11 = some (Sz.one, SV.one (SC.pv (PV.str ByteArray.empty))) := by kernel_rfl
@[go_sem] theorem eq11 : eqTOf Tryz.prog 11 = EqT.str := by kernel_rfl
@[go_sem] theorem cv11 : cvTOf Tryz.prog 11 = CvT.string := by kernel_rfl
@[go_sem] theorem sz12 : szOf Tryz.prog 12 = some Sz.one := by kernel_rfl
@[go_sem] theorem zo12 : zeroOf Tryz.prog 12 = some (Sz.one, SV.one (SC.pv (PV.int IntKind.u64 0))) := by kernel_rfl
@[go_sem] theorem eq12 : eqTOf Tryz.prog 12 = EqT.other := by kernel_rfl
@[go_sem] theorem cv12 : cvTOf Tryz.prog 12 = CvT.int IntKind.u64 := by kernel_rfl
@[go_sem] theorem sz13 : szOf Tryz.prog 13 = some (Sz.agg 2) := by kernel_rfl
@[go_sem] theorem zo13 : zeroOf Tryz.prog 13 = some (Sz.agg 2, SV.agg [SC.pv (PV.str ByteArray.empty), SC.pv (PV.int IntKind.u64 0)]) := by kernel_rfl
@[go_sem] theorem pl13 : placesOf Tryz.prog 13 = some [(0, Sz.one), (1, Sz.one)] := by kernel_rfl
@[go_sem] theorem eq13 : eqTOf Tryz.prog 13 = EqT.other := by kernel_rfl
@[go_sem] theorem cv13 : cvTOf Tryz.prog 13 = CvT.other := by kernel_rfl
@[go_sem] theorem fo13_0 : fieldOff Tryz.prog 13 0 = some 0 := by kernel_rfl
@[go_sem] theorem fs13_0 : fieldSz Tryz.prog 13 0 = some Sz.one := by kernel_rfl
@[go_sem] theorem fo13_1 : fieldOff Tryz.prog 13 1 = some 1 := by kernel_rfl
@[go_sem] theorem fs13_1 : fieldSz Tryz.prog 13 1 = some Sz.one := by kernel_rfl
@[go_sem] theorem sz14 : szOf Tryz.prog 14 = some (Sz.agg 2) := by kernel_rfl
@[go_sem] theorem zo14 : zeroOf Tryz.prog 14 = some (Sz.agg 2, SV.agg [SC.pv (PV.str ByteArray.empty), SC.pv (PV.int IntKind.u64 0)]) := by kernel_rfl
@[go_sem] theorem pl14 : placesOf Tryz.prog 14 = some [(0, Sz.one), (1, Sz.one)] := by kernel_rfl
@[go_sem] theorem eq14 : eqTOf Tryz.prog 14 = EqT.other := by kernel_rfl
@[go_sem] theorem cv14 : cvTOf Tryz.prog 14 = CvT.other := by kernel_rfl
@[go_sem] theorem fo14_0 : fieldOff Tryz.prog 14 0 = some 0 := by kernel_rfl
@[go_sem] theorem fs14_0 : fieldSz Tryz.prog 14 0 = some Sz.one := by kernel_rfl
@[go_sem] theorem fo14_1 : fieldOff Tryz.prog 14 1 = some 1 := by kernel_rfl
@[go_sem] theorem fs14_1 : fieldSz Tryz.prog 14 1 = some Sz.one := by kernel_rfl
@[go_sem] theorem sz15 : szOf Tryz.prog 15 = some Sz.one := by kernel_rfl
@[go_sem] theorem zo15 : zeroOf Tryz.prog 15 = some (Sz.one, SV.one (SC.pv PV.nilp)) := by kernel_rfl
@[go_sem] theorem eq15 : eqTOf Tryz.prog 15 = EqT.ptr := by kernel_rfl
@[go_sem] theorem cv15 : cvTOf Tryz.prog 15 = CvT.other := by kernel_rfl
@[go_sem] theorem sz16 : szOf Tryz.prog 16 = some Sz.one := by kernel_rfl
@[go_sem] theorem zo16 : zeroOf Tryz.prog 16 = some (Sz.one, SV.one (SC.pv PV.nilp)) := by kernel_rfl
@[go_sem] theorem eq16 : eqTOf Tryz.prog 16 = EqT.ptr := by kernel_rfl
@[go_sem] theorem cv16 : cvTOf Tryz.prog 16 = CvT.other := by kernel_rfl
@[go_sem] theorem sz17 : szOf Tryz.prog 17 = some Sz.one := by kernel_rfl
@[go_sem] theorem zo17 : zeroOf Tryz.prog 17 = some (Sz.one, SV.one (SC.pv PV.nilp)) := by kernel_rfl
@[go_sem] theorem eq17 : eqTOf Tryz.prog 17 = EqT.ptr := by kernel_rfl
@[go_sem] theorem cv17 : cvTOf Tryz.prog 17 = CvT.other := by kernel_rfl
@[go_sem] theorem sz18 : szOf Tryz.prog 18 = some (Sz.agg 1) := by kernel_rfl
@[go_sem] theorem zo18 : zeroOf Tryz.prog 18 = some (Sz.agg 1, SV.agg [SC.pv PV.nilp]) := by kernel_rfl
@[go_sem] theorem pl18 : placesOf Tryz.prog 18 = some [(0, Sz.one)] := by kernel_rfl
@[go_sem] theorem eq18 : eqTOf Tryz.prog 18 = EqT.other := by kernel_rfl
@[go_sem] theorem cv18 : cvTOf Tryz.prog 18 = CvT.other := by kernel_rfl
@[go_sem] theorem fo18_0 : fieldOff Tryz.prog 18 0 = some 0 := by kernel_rfl
@[go_sem] theorem fs18_0 : fieldSz Tryz.prog 18 0 = some Sz.one := by kernel_rfl
@[go_sem] theorem sz19 : szOf Tryz.prog 19 = some (Sz.agg 1) := by kernel_rfl
@[go_sem] theorem zo19 : zeroOf Tryz.prog 19 = some (Sz.agg 1, SV.agg [SC.pv PV.nilp]) := by kernel_rfl
@[go_sem] theorem pl19 : placesOf Tryz.prog 19 = some [(0, Sz.one)] := by kernel_rfl
@[go_sem] theorem eq19 : eqTOf Tryz.prog 19 = EqT.other := by kernel_rfl
@[go_sem] theorem cv19 : cvTOf Tryz.prog 19 = CvT.other := by kernel_rfl
@[go_sem] theorem fo19_0 : fieldOff Tryz.prog 19 0 = some 0 := by kernel_rfl
@[go_sem] theorem fs19_0 : fieldSz Tryz.prog 19 0 = some Sz.one := by kernel_rfl
@[go_sem] theorem sz20 : szOf Tryz.prog 20 = some Sz.one := by kernel_rfl
@[go_sem] theorem zo20 : zeroOf Tryz.prog 20 = some (Sz.one, SV.one (SC.pv PV.nili)) := by kernel_rfl
@[go_sem] theorem eq20 : eqTOf Tryz.prog 20 = EqT.iface := by kernel_rfl
@[go_sem] theorem cv20 : cvTOf Tryz.prog 20 = CvT.other := by kernel_rfl
@[go_sem] theorem sz21 : szOf Tryz.prog 21 = some Sz.one := by kernel_rfl
@[go_sem] theorem zo21 : zeroOf Tryz.prog 21 = some (Sz.one, SV.one (SC.pv (PV.int IntKind.i32 0))) := by kernel_rfl
@[go_sem] theorem eq21 : eqTOf Tryz.prog 21 = EqT.other := by kernel_rfl
@[go_sem] theorem cv21 : cvTOf Tryz.prog 21 = CvT.int IntKind.i32 := by kernel_rfl
@[go_sem] theorem sz22 : szOf Tryz.prog 22 = some Sz.one := by kernel_rfl
@[go_sem] theorem el22 : elemOf Tryz.prog 22 = some 24 := by kernel_rfl
@[go_sem] theorem es22 : elemSz Tryz.prog 22 = some (Sz.agg 1, 24) := by kernel_rfl
@[go_sem] theorem zo22 : zeroOf Tryz.prog 22 = some (Sz.one, SV.one SC.nilS) := by kernel_rfl
@[go_sem] theorem eq22 : eqTOf Tryz.prog 22 = EqT.other := by kernel_rfl
@[go_sem] theorem cv22 : cvTOf Tryz.prog 22 = CvT.other := by kernel_rfl
@[go_sem] theorem sz23 : szOf Tryz.prog 23 = some (Sz.agg 1) := by kernel_rfl
@[go_sem] theorem zo23 : zeroOf Tryz.prog 23 = some (Sz.agg 1, SV.agg [SC.nilS]) := by kernel_rfl
@[go_sem] theorem pl23 : placesOf Tryz.prog 23 = some [(0, Sz.one)] := by kernel_rfl
@[go_sem] theorem eq23 : eqTOf Tryz.prog 23 = EqT.other := by kernel_rfl
@[go_sem] theorem cv23 : cvTOf Tryz.prog 23 = CvT.other := by kernel_rfl
@[go_sem] theorem fo23_0 : fieldOff Tryz.prog 23 0 = some 0 := by kernel_rfl
@[go_sem] theorem fs23_0 : fieldSz Tryz.prog 23 0 = some Sz.one := by kernel_rfl
@[go_sem] theorem sz24 : szOf Tryz.prog 24 = some (Sz.agg 1) := by kernel_rfl
@[go_sem] theorem zo24 : zeroOf Tryz.prog 24 = some (Sz.agg 1, SV.agg [SC.nilS]) := by kernel_rfl
@[go_sem] theorem pl24 : placesOf Tryz.prog 24 = some [(0, Sz.one)] := by kernel_rfl
@[go_sem] theorem eq24 : eqTOf Tryz.prog 24 = EqT.other := by kernel_rfl
@[go_sem] theorem cv24 : cvTOf Tryz.prog 24 = CvT.other := by kernel_rfl
@[go_sem] theorem fo24_0 : fieldOff Tryz.prog 24 0 = some 0 := by kernel_rfl
@[go_sem] theorem fs24_0 : fieldSz Tryz.prog 24 0 = some Sz.one := by kernel_rfl
@[go_sem] theorem sz25 : szOf Tryz.prog 25 = some Sz.one := by kernel_rfl
@[go_sem] theorem el25 : elemOf Tryz.prog 25 = some 9 := by kernel_rfl
@[go_sem] theorem es25 : elemSz Tryz.prog 25 = some (Sz.one, 16) := by kernel_rfl
@[go_sem] theorem zo25 : zeroOf Tryz.prog 25 = some (Sz.one, SV.one SC.nilS) := by kernel_rfl
@[go_sem] theorem eq25 : eqTOf Tryz.prog 25 = EqT.other := by kernel_rfl
@[go_sem] theorem cv25 : cvTOf Tryz.prog 25 = CvT.other := by kernel_rfl
@[go_sem] theorem sz26 : szOf Tryz.prog 26 = some Sz.one := by kernel_rfl
@[go_sem] theorem el26 : elemOf Tryz.prog 26 = some 28 := by kernel_rfl
@[go_sem] theorem es26 : elemSz Tryz.prog 26 = some (Sz.agg 6, 104) := by kernel_rfl
@[go_sem] theorem zo26 : zeroOf Tryz.prog 26 = some (Sz.one, SV.one SC.nilS) := by kernel_rfl
@[go_sem] theorem eq26 : eqTOf Tryz.prog 26 = EqT.other := by kernel_rfl
@[go_sem] theorem cv26 : cvTOf Tryz.prog 26 = CvT.other := by kernel_rfl
@[go_sem] theorem sz27 : szOf Tryz.prog 27 = some (Sz.agg 6) := by kernel_rfl
@[go_sem] theorem zo27 : zeroOf Tryz.prog 27 = some (Sz.agg 6, SV.agg [SC.pv (PV.int IntKind.i64 0), SC.pv (PV.int IntKind.i64 0), SC.pv (PV.str ByteArray.empty), SC.nilS, SC.nilS, SC.nilS]) := by kernel_rfl
@[go_sem] theorem pl27 : placesOf Tryz.prog 27 = some [(0, Sz.one), (1, Sz.one), (2, Sz.one), (3, Sz.agg 1), (4, Sz.one), (5, Sz.one)] := by kernel_rfl
@[go_sem] theorem eq27 : eqTOf Tryz.prog 27 = EqT.other := by kernel_rfl
@[go_sem] theorem cv27 : cvTOf Tryz.prog 27 = CvT.other := by kernel_rfl
@[go_sem] theorem fo27_0 : fieldOff Tryz.prog 27 0 = some 0 := by kernel_rfl
@[go_sem] theorem fs27_0 : fieldSz Tryz.prog 27 0 = some Sz.one := by kernel_rfl
@[go_sem] theorem fo27_1 : fieldOff Tryz.prog 27 1 = some 1 := by kernel_rfl
@[go_sem] theorem fs27_1 : fieldSz Tryz.prog 27 1 = some Sz.one := by kernel_rfl
@[go_sem] theorem fo27_2 : fieldOff Tryz.prog 27 2 = some 2 := by kernel_rfl
@[go_sem] theorem fs27_2 : fieldSz Tryz.prog 27 2 = some Sz.one := by kernel_rfl
@[go_sem] theorem fo27_3 : fieldOff Tryz.prog 27 3 = some 3 := by kernel_rfl
@[go_sem] theorem fs27_3 : fieldSz Tryz.prog 27 3 = some (Sz.agg 1) := by kernel_rfl
@[go_sem] theorem fo27_4 : fieldOff Tryz.prog 27 4 = some 4 := by kernel_rfl
@[go_sem] theorem fs27_4 : fieldSz Tryz.prog 27 4 = some Sz.one := by kernel_rfl
@[go_sem] theorem fo27_5 : fieldOff Tryz.prog 27 5 = some 5 := by kernel_rfl
@[go_sem] theorem fs27_5 : fieldSz Tryz.prog 27 5 = some Sz.one := by kernel_rfl
@[go_sem] theorem sz28 : szOf Tryz.prog 28 = some (Sz.agg 6) := by kernel_rfl
@[go_sem] theorem zo28 : zeroOf Tryz.prog 28 = some (Sz.agg 6, SV.agg [SC.pv (PV.int IntKind.i64 0), SC.pv (PV.int IntKind.i64 0), SC.pv (PV.str ByteArray.empty), SC.nilS, SC.nilS, SC.nilS]) := by kernel_rfl
@[go_sem] theorem pl28 : placesOf Tryz.prog 28 = some [(0, Sz.one), (1, Sz.one), (2, Sz.one), (3, Sz.agg 1), (4, Sz.one), (5, Sz.one)] := by kernel_rfl
@[go_sem] theorem eq28 : eqTOf Tryz.prog 28 = EqT.other := by kernel_rfl
@[go_sem] theorem cv28 : cvTOf Tryz.prog 28 = CvT.other := by kernel_rfl
@[go_sem] theorem fo28_0 : fieldOff Tryz.prog 28 0 = some 0 := by kernel_rfl
@[go_sem] theorem fs28_0 : fieldSz Tryz.prog 28 0 = some Sz.one := by kernel_rfl
@[go_sem] theorem fo28_1 : fieldOff Tryz.prog 28 1 = some 1 := by kernel_rfl
@[go_sem] theorem fs28_1 : fieldSz Tryz.prog 28 1 = some Sz.one := by kernel_rfl
@[go_sem] theorem fo28_2 : fieldOff Tryz.prog 28 2 = some 2 := by kernel_rfl
@[go_sem] theorem fs28_2 : fieldSz Tryz.prog 28 2 = some Sz.one := by kernel_rfl
@[go_sem] theorem fo28_3 : fieldOff Tryz.prog 28 3 = some 3 := by kernel_rfl
@[go_sem] theorem fs28_3 : fieldSz Tryz.prog 28 3 = some (Sz.agg 1) := by kernel_rfl
@[go_sem] theorem fo28_4 : fieldOff Tryz.prog 28 4 = some 4 := by kernel_rfl
@[go_sem] theorem fs28_4 : fieldSz Tryz.prog 28 4 = some Sz.one := by kernel_rfl
@[go_sem] theorem fo28_5 : fieldOff Tryz.prog 28 5 = some 5 := by kernel_rfl
@[go_sem] theorem fs28_5 : fieldSz Tryz.prog 28 5 = some Sz.one := by kernel_rfl
@[go_sem] theorem sz29 : szOf Tryz.prog 29 = some Sz.one := by kernel_rfl
@[go_sem] theorem el29 : elemOf Tryz.prog 29 = some 31 := by kernel_rfl
@[go_sem] theorem es29 : elemSz Tryz.prog 29 = some (Sz.agg 18, 312) := by kernel_rfl
@[go_sem] theorem zo29 : zeroOf Tryz.prog 29 = some (Sz.one, SV.one SC.nilS) := by kernel_rfl
@[go_sem] theorem eq29 : eqTOf Tryz.prog 29 = EqT.other := by kernel_rfl
@[go_sem] theorem cv29 : cvTOf Tryz.prog 29 = CvT.other := by kernel_rfl
@[go_sem] theorem sz30 : szOf Tryz.prog 30 = some (Sz.agg 18) := by kernel_rfl
@[go_sem] theorem zo30 : zeroOf Tryz.prog 30 = some (Sz.agg 18, SV.agg [SC.pv (PV.int IntKind.i64 0), SC.pv (PV.int IntKind.i64 0), SC.pv (PV.str ByteArray.empty), SC.pv (PV.int IntKind.i64 0), SC.pv (PV.int IntKind.i64 0), SC.pv (PV.str ByteArray.empty), SC.nilS, SC.nilS, SC.nilS, SC.pv (PV.int IntKind.i64 0), SC.pv (PV.int IntKind.i64 0), SC.pv (PV.str ByteArray.empty), SC.nilS, SC.nilS, SC.nilS, SC.nilS, SC.nilS, SC.nilS]) := by kernel_rfl
@[go_sem] theorem pl30 : placesOf Tryz.prog 30 = some [(0, Sz.one), (1, Sz.one), (2, Sz.one), (3, Sz.agg 6), (9, Sz.agg 6), (15, Sz.agg 1), (16, Sz.one), (17, Sz.one)] := by kernel_rfl
@[go_sem] theorem eq30 : eqTOf Tryz.prog 30 = EqT.other := by kernel_rfl
@[go_sem] theorem cv30 : cvTOf Tryz.prog 30 = CvT.other := by kernel_rfl
@[go_sem] theorem fo30_0 : fieldOff Tryz.prog 30 0 = some 0 := by kernel_rfl
@[go_sem] theorem fs30_0 : fieldSz Tryz.prog 30 0 = some Sz.one := by kernel_rfl
@[go_sem] theorem fo30_1 : fieldOff Tryz.prog 30 1 = some 1 := by kernel_rfl
@[go_sem] theorem fs30_1 : fieldSz Tryz.prog 30 1 = some Sz.one := by kernel_rfl
@[go_sem] theorem fo30_2 : fieldOff Tryz.prog 30 2 = some 2 := by kernel_rfl
@[go_sem] theorem fs30_2 : fieldSz Tryz.prog 30 2 = some Sz.one := by kernel_rfl
@[go_sem] theorem fo30_3 : fieldOff Tryz.prog 30 3 = some 3 := by kernel_rfl
@[go_sem] theorem fs30_3 : fieldSz Tryz.prog 30 3 = some (Sz.agg 6) := by kernel_rfl
@[go_sem] theorem fo30_4 : fieldOff Tryz.prog 30 4 = some 9 := by kernel_rfl
@[go_sem] theorem fs30_4 : fieldSz Tryz.prog 30 4 = some (Sz.agg 6) := by kernel_rfl
@[go_sem] theorem fo30_5 : fieldOff Tryz.prog 30 5 = some 15 := by kernel_rfl
@[go_sem] theorem fs30_5 : fieldSz Tryz.prog 30 5 = some (Sz.agg 1) := by kernel_rfl
@[go_sem] theorem fo30_6 : fieldOff Tryz.prog 30 6 = some 16 := by kernel_rfl
@[go_sem] theorem fs30_6 : fieldSz Tryz.prog 30 6 = some Sz.one := by kernel_rfl
@[go_sem] theorem fo30_7 : fieldOff Tryz.prog 30 7 = some 17 := by kernel_rfl
@[go_sem] theorem fs30_7 : fieldSz Tryz.prog 30 7 = some Sz.one := by kernel_rfl
@[go_sem] theorem sz31 : szOf Tryz.prog 31 = some (Sz.agg 18) := by kernel_rfl
@[go_sem] theorem zo31 : zeroOf Tryz.prog 31 = some (Sz.agg 18, SV.agg [SC.pv (PV.int IntKind.i64 0), SC.pv (PV.int IntKind.i64 0), SC.pv (PV.str ByteArray.empty), SC.pv (PV.int IntKind.i64 0), SC.pv (PV.int IntKind.i64 0), SC.pv (PV.str ByteArray.empty), SC.nilS, SC.nilS, SC.nilS, SC.pv (PV.int IntKind.i64 0), SC.pv (PV.int IntKind.i64 0), SC.pv (PV.str ByteArray.empty), SC.nilS, SC.nilS, SC.nilS, SC.nilS, SC.nilS, SC.nilS]) := by kernel_rfl
@[go_sem] theorem pl31 : placesOf Tryz.prog 31 = some [(0, Sz.one), (1, Sz.one), (2, Sz.one), (3, Sz.agg 6), (9, Sz.agg 6), (15, Sz.agg 1), (16, Sz.one), (17, Sz.one)] := by kernel_rfl
@[go_sem] theorem eq31 : eqTOf Tryz.prog 31 = EqT.other := by kernel_rfl
@[go_sem] theorem cv31 : cvTOf Tryz.prog 31 = CvT.other := by kernel_rfl
@[go_sem] theorem fo31_0 : fieldOff Tryz.prog 31 0 = some 0 := by kernel_rfl
@[go_sem] theorem fs31_0 : fieldSz Tryz.prog 31 0 = some Sz.one := by kernel_rfl
@[go_sem] theorem fo31_1 : fieldOff Tryz.prog 31 1 = some 1 := by kernel_rfl
@[go_sem] theorem fs31_1 : fieldSz Tryz.prog 31 1 = some Sz.one := by kernel_rfl
@[go_sem] theorem fo31_2 : fieldOff Tryz.prog 31 2 = some 2 := by kernel_rfl
@[go_sem] theorem fs31_2 : fieldSz Tryz.prog 31 2 = some Sz.one := by kernel_rfl
@[go_sem] theorem fo31_3 : fieldOff Tryz.prog 31 3 = some 3 := by kernel_rfl
@[go_sem] theorem fs31_3 : fieldSz Tryz.prog 31 3 = some (Sz.agg 6) := by kernel_rfl
@[go_sem] theorem fo31_4 : fieldOff Tryz.prog 31 4 = some 9 := by kernel_rfl
@[go_sem] theorem fs31_4 : fieldSz Tryz.prog 31 4 = some (Sz.agg 6) := by kernel_rfl
@[go_sem] theorem fo31_5 : fieldOff Tryz.prog 31 5 = some 15 := by kernel_rfl
@[go_sem] theorem fs31_5 : fieldSz Tryz.prog 31 5 = some (Sz.agg 1) := by kernel_rfl
@[go_sem] theorem fo31_6 : fieldOff Tryz.prog 31 6 = some 16 := by kernel_rfl
@[go_sem] theorem fs31_6 : fieldSz Tryz.prog 31 6 = some Sz.one := by kernel_rfl
@[go_sem] theorem fo31_7 : fieldOff Tryz.prog 31 7 = some 17 := by kernel_rfl
@[go_sem] theorem fs31_7 : fieldSz Tryz.prog 31 7 = some Sz.one := by kernel_rfl
@[go_sem] theorem sz32 : szOf Tryz.prog 32 = some Sz.one := by kernel_rfl
@[go_sem] theorem zo32 : zeroOf Tryz.prog 32 = some (Sz.one, SV.one (SC.pv PV.nilfn)) := by kernel_rfl
@[go_sem] theorem eq32 : eqTOf Tryz.prog 32 = EqT.other := by kernel_rfl
@[go_sem] theorem cv32 : cvTOf Tryz.prog 32 = CvT.other := by kernel_rfl
@[go_sem] theorem sz33 : szOf Tryz.prog 33 = some Sz.one := by kernel_rfl
@[go_sem] theorem zo33 : zeroOf Tryz.prog 33 = some (Sz.one, SV.one (SC.pv PV.nilfn)) := by kernel_rfl
@[go_sem] theorem eq33 : eqTOf Tryz.prog 33 = EqT.other := by kernel_rfl
@[go_sem] theorem cv33 : cvTOf Tryz.prog 33 = CvT.other := by kernel_rfl
@[go_sem] theorem sz34 : szOf Tryz.prog 34 = some Sz.one := by kernel_rfl
@[go_sem] theorem zo34 : zeroOf Tryz.prog 34 = some (Sz.one, SV.one (SC.pv (PV.int IntKind.i64 0))) := by kernel_rfl
@[go_sem] theorem eq34 : eqTOf Tryz.prog 34 = EqT.other := by kernel_rfl
@[go_sem] theorem cv34 : cvTOf Tryz.prog 34 = CvT.int IntKind.i64 := by kernel_rfl
@[go_sem] theorem sz35 : szOf Tryz.prog 35 = some Sz.one := by kernel_rfl
@[go_sem] theorem eq35 : eqTOf Tryz.prog 35 = EqT.other := by kernel_rfl
@[go_sem] theorem cv35 : cvTOf Tryz.prog 35 = CvT.other := by kernel_rfl
@[go_sem] theorem sz36 : szOf Tryz.prog 36 = some Sz.one := by kernel_rfl
@[go_sem] theorem zo36 : zeroOf Tryz.prog 36 = some (Sz.one, SV.one (SC.pv PV.nilfn)) := by kernel_rfl
@[go_sem] theorem eq36 : eqTOf Tryz.prog 36 = EqT.other := by kernel_rfl
@[go_sem] theorem cv36 : cvTOf Tryz.prog 36 = CvT.other := by kernel_rfl
@[go_sem] theorem sz37 : szOf Tryz.prog 37 = some Sz.one := by kernel_rfl
@[go_sem] theorem zo37 : zeroOf Tryz.prog 37 = some (Sz.one, SV.one (SC.pv PV.nilfn)) := by kernel_rfl
@[go_sem] theorem eq37 : eqTOf Tryz.prog 37 = EqT.other := by kernel_rfl
@[go_sem] theorem cv37 : cvTOf Tryz.prog 37 = CvT.other := by kernel_rfl
@[go_sem] theorem sz38 : szOf Tryz.prog 38 = some Sz.one := by kernel_rfl
@[go_sem] theorem zo38 : zeroOf Tryz.prog 38 = some (Sz.one, SV.one (SC.pv PV.nilfn)) := by kernel_rfl
@[go_sem] theorem eq38 : eqTOf Tryz.prog 38 = EqT.other := by kernel_rfl
@[go_sem] theorem cv38 : cvTOf Tryz.prog 38 = CvT.other := by kernel_rfl
@[go_sem] theorem sz39 : szOf Tryz.prog 39 = some Sz.one := by kernel_rfl
@[go_sem] theorem zo39 : zeroOf Tryz.prog 39 = some (Sz.one, SV.one (SC.pv PV.nilfn)) := by kernel_rfl
@[go_sem] theorem eq39 : eqTOf Tryz.prog 39 = EqT.other := by kernel_rfl
@[go_sem] theorem cv39 : cvTOf Tryz.prog 39 = CvT.other := by kernel_rfl
@[go_sem] theorem sz40 : szOf Tryz.prog 40 = some Sz.one := by kernel_rfl
@[go_sem] theorem el40 : elemOf Tryz.prog 40 = some 3 := by kernel_rfl
@[go_sem] theorem es40 : elemSz Tryz.prog 40 = some (Sz.one, 8) := by kernel_rfl
@[go_sem] theorem zo40 : zeroOf Tryz.prog 40 = some (Sz.one, SV.one SC.nilS) := by kernel_rfl
@[go_sem] theorem eq40 : eqTOf Tryz.prog 40 = EqT.other := by kernel_rfl
@[go_sem] theorem cv40 : cvTOf Tryz.prog 40 = CvT.other := by kernel_rfl
@[go_sem] theorem sz41 : szOf Tryz.prog 41 = some Sz.one := by kernel_rfl
@[go_sem] theorem zo41 : zeroOf Tryz.prog 41 = some (Sz.one, SV.one (SC.pv PV.nilfn)) := by kernel_rfl
@[go_sem] theorem eq41 : eqTOf Tryz.prog 41 = EqT.other := by kernel_rfl
@[go_sem] theorem cv41 : cvTOf Tryz.prog 41 = CvT.other := by kernel_rfl
@[go_sem] theorem sz42 : szOf Tryz.prog 42 = some Sz.one := by kernel_rfl
@[go_sem] theorem eq42 : eqTOf Tryz.prog 42 = EqT.other := by kernel_rfl
@[go_sem] theorem cv42 : cvTOf Tryz.prog 42 = CvT.other := by kernel_rfl
@[go_sem] theorem sz43 : szOf Tryz.prog 43 = some Sz.one := by kernel_rfl
@[go_sem] theorem zo43 : zeroOf Tryz.prog 43 = some (Sz.one, SV.one (SC.pv PV.nilfn)) := by kernel_rfl
@[go_sem] theorem eq43 : eqTOf Tryz.prog 43 = EqT.other := by kernel_rfl
@[go_sem] theorem cv43 : cvTOf Tryz.prog 43 = CvT.other := by kernel_rfl
@[go_sem] theorem sz44 : szOf Tryz.prog 44 = some Sz.one := by kernel_rfl
@[go_sem] theorem zo44 : zeroOf Tryz.prog 44 = some (Sz.one, SV.one (SC.pv PV.nilfn)) := by kernel_rfl
@[go_sem] theorem eq44 : eqTOf Tryz.prog 44 = EqT.other := by kernel_rfl
@[go_sem] theorem cv44 : cvTOf Tryz.prog 44 = CvT.other := by kernel_rfl
@[go_sem] theorem sz45 : szOf Tryz.prog 45 = some Sz.one := by kernel_rfl
@[go_sem] theorem zo45 : zeroOf Tryz.prog 45 = some (Sz.one, SV.one (SC.pv PV.nilfn)) := by kernel_rfl
@[go_sem] theorem eq45 : eqTOf Tryz.prog 45 = EqT.other := by kernel_rfl
@[go_sem] theorem cv45 : cvTOf Tryz.prog 45 = CvT.other := by kernel_rfl
@[go_sem] theorem sz46 : szOf Tryz.prog 46 = some Sz.one := by kernel_rfl
@[go_sem] theorem eq46 : eqTOf Tryz.prog 46 = EqT.other := by kernel_rfl
@[go_sem] theorem cv46 : cvTOf Tryz.prog 46 = CvT.other := by kernel_rfl
@[go_sem] theorem sz47 : szOf Tryz.prog 47 = some Sz.one := by kernel_rfl
@[go_sem] theorem zo47 : zeroOf Tryz.prog 47 = some (Sz.one, SV.one (SC.pv PV.nilfn)) := by kernel_rfl
@[go_sem] theorem eq47 : eqTOf Tryz.prog 47 = EqT.other := by kernel_rfl
@[go_sem] theorem cv47 : cvTOf Tryz.prog 47 = CvT.other := by kernel_rfl
@[go_sem] theorem sz48 : szOf Tryz.prog 48 = some Sz.one := by kernel_rfl
@[go_sem] theorem zo48 : zeroOf Tryz.prog 48 = some (Sz.one, SV.one (SC.pv PV.nilfn)) := by kernel_rfl
@[go_sem] theorem eq48 : eqTOf Tryz.prog 48 = EqT.other := by kernel_rfl
@[go_sem] theorem cv48 : cvTOf Tryz.prog 48 = CvT.other := by kernel_rfl
@[go_sem] theorem sz49 : szOf Tryz.prog 49 = some Sz.one := by kernel_rfl
@[go_sem] theorem zo49 : zeroOf Tryz.prog 49 = some (Sz.one, SV.one (SC.pv PV.nilfn)) := by kernel_rfl
@[go_sem] theorem eq49 : eqTOf Tryz.prog 49 = EqT.other := by kernel_rfl
@[go_sem] theorem cv49 : cvTOf Tryz.prog 49 = CvT.other := by kernel_rfl
@[go_sem] theorem sz50 : szOf Tryz.prog 50 = some Sz.one := by kernel_rfl
@[go_sem] theorem zo50 : zeroOf Tryz.prog 50 = some (Sz.one, SV.one (SC.pv PV.nilfn)) := by kernel_rfl
@[go_sem] theorem eq50 : eqTOf Tryz.prog 50 = EqT.other := by kernel_rfl
@[go_sem] theorem cv50 : cvTOf Tryz.prog 50 = CvT.other := by kernel_rfl
@[go_sem] theorem sz51 : szOf Tryz.prog 51 = some Sz.one := by kernel_rfl
@[go_sem] theorem zo51 : zeroOf Tryz.prog 51 = some (Sz.one, SV.one (SC.pv PV.nilfn)) := by kernel_rfl
@[go_sem] theorem eq51 : eqTOf Tryz.prog 51 = EqT.other := by kernel_rfl
@[go_sem] theorem cv51 : cvTOf Tryz.prog 51 = CvT.other := by kernel_rfl
@[go_sem] theorem sz52 : szOf Tryz.prog 52 = some Sz.one := by kernel_rfl
@[go_sem] theorem zo52 : zeroOf Tryz.prog 52 = some (Sz.one, SV.one (SC.pv PV.nilfn)) := by kernel_rfl
@[go_sem] theorem eq52 : eqTOf Tryz.prog 52 = EqT.other := by kernel_rfl
@[go_sem] theorem cv52 : cvTOf Tryz.prog 52 = CvT.other := by kernel_rfl
@[go_sem] theorem sz53 : szOf Tryz.prog 53 = some Sz.one := by kernel_rfl
@[go_sem] theorem zo53 : zeroOf Tryz.prog 53 = some (Sz.one, SV.one (SC.pv PV.nilfn)) := by kernel_rfl
@[go_sem] theorem eq53 : eqTOf Tryz.prog 53 = EqT.other := by kernel_rfl
@[go_sem] theorem cv53 : cvTOf Tryz.prog 53 = CvT.other := by kernel_rfl
@[go_sem] theorem sz54 : szOf Tryz.prog 54 = some Sz.one := by kernel_rfl
@[go_sem] theorem zo54 : zeroOf Tryz.prog 54 = some (Sz.one, SV.one (SC.pv PV.nilfn)) := by kernel_rfl
@[go_sem] theorem eq54 : eqTOf Tryz.prog 54 = EqT.other := by kernel_rfl
@[go_sem] theorem cv54 : cvTOf Tryz.prog 54 = CvT.other := by kernel_rfl
@[go_sem] theorem sz55 : szOf Tryz.prog 55 = some Sz.one := by kernel_rfl
@[go_sem] theorem zo55 : zeroOf Tryz.prog 55 = some (Sz.one, SV.one (SC.pv PV.nilfn)) := by kernel_rfl
@[go_sem] theorem eq55 : eqTOf Tryz.prog 55 = EqT.other := by kernel_rfl
@[go_sem] theorem cv55 : cvTOf Tryz.prog 55 = CvT.other := by kernel_rfl
@[go_sem] theorem sz56 : szOf Tryz.prog 56 = some Sz.one := by kernel_rfl
@[go_sem] theorem zo56 : zeroOf Tryz.prog 56 = some (Sz.one, SV.one (SC.pv PV.nilfn)) := by kernel_rfl
@[go_sem] theorem eq56 : eqTOf Tryz.prog 56 = EqT.other := by kernel_rfl
@[go_sem] theorem cv56 : cvTOf Tryz.prog 56 = CvT.other := by kernel_rfl
@[go_sem] theorem sz57 : szOf Tryz.prog 57 = some Sz.one := by kernel_rfl
@[go_sem] theorem zo57 : zeroOf Tryz.prog 57 = some (Sz.one, SV.one (SC.pv PV.nilfn)) := by kernel_rfl
@[go_sem] theorem eq57 : eqTOf Tryz.prog 57 = EqT.other := by kernel_rfl
@[go_sem] theorem cv57 : cvTOf Tryz.prog 57 = CvT.other := by kernel_rfl
@[go_sem] theorem sz58 : szOf Tryz.prog 58 = some Sz.one := by kernel_rfl
@[go_sem] theorem zo58 : zeroOf Tryz.prog 58 = some (Sz.one, SV.one (SC.pv PV.nilfn)) := by kernel_rfl
@[go_sem] theorem eq58 : eqTOf Tryz.prog 58 = EqT.other := by kernel_rfl
@[go_sem] theorem cv58 : cvTOf Tryz.prog 58 = CvT.other := by kernel_rfl
@[go_sem] theorem sz59 : szOf Tryz.prog 59 = some Sz.one := by kernel_rfl
@[go_sem] theorem zo59 : zeroOf Tryz.prog 59 = some (Sz.one, SV.one (SC.pv PV.nilfn)) := by kernel_rfl
@[go_sem] theorem eq59 : eqTOf Tryz.prog 59 = EqT.other := by kernel_rfl
@[go_sem] theorem cv59 : cvTOf Tryz.prog 59 = CvT.other := by kernel_rfl
@[go_sem] theorem sz60 : szOf Tryz.prog 60 = some Sz.one := by kernel_rfl
@[go_sem] theorem zo60 : zeroOf Tryz.prog 60 = some (Sz.one, SV.one (SC.pv PV.nilfn)) := by kernel_rfl
@[go_sem] theorem eq60 : eqTOf Tryz.prog 60 = EqT.other := by kernel_rfl
@[go_sem] theorem cv60 : cvTOf Tryz.prog 60 = CvT.other := by kernel_rfl
@[go_sem] theorem sz61 : szOf Tryz.prog 61 = some Sz.one := by kernel_rfl
@[go_sem] theorem zo61 : zeroOf Tryz.prog 61 = some (Sz.one, SV.one (SC.pv PV.nilfn)) := by kernel_rfl
@[go_sem] theorem eq61 : eqTOf Tryz.prog 61 = EqT.other := by kernel_rfl
@[go_sem] theorem cv61 : cvTOf Tryz.prog 61 = CvT.other := by kernel_rfl
@[go_sem] theorem sz62 : szOf Tryz.prog 62 = some Sz.one := by kernel_rfl
@[go_sem] theorem zo62 : zeroOf Tryz.prog 62 = some (Sz.one, SV.one (SC.pv PV.nilfn)) := by kernel_rfl
@[go_sem] theorem eq62 : eqTOf Tryz.prog 62 = EqT.other := by kernel_rfl
@[go_sem] theorem cv62 : cvTOf Tryz.prog 62 = CvT.other := by kernel_rfl
@[go_sem] theorem sz63 : szOf Tryz.prog 63 = some Sz.one := by kernel_rfl
@[go_sem] theorem zo63 : zeroOf Tryz.prog 63 = some (Sz.one, SV.one (SC.pv PV.nilfn)) := by kernel_rfl
@[go_sem] theorem eq63 : eqTOf Tryz.prog 63 = EqT.other := by kernel_rfl
@[go_sem] theorem cv63 : cvTOf Tryz.prog 63 = CvT.other := by kernel_rfl
@[go_sem] theorem sz64 : szOf Tryz.prog 64 = some Sz.one := by kernel_rfl
@[go_sem] theorem zo64 : zeroOf Tryz.prog 64 = some (Sz.one, SV.one (SC.pv PV.nilfn)) := by kernel_rfl
@[go_sem] theorem eq64 : eqTOf Tryz.prog 64 = EqT.other := by kernel_rfl
@[go_sem] theorem cv64 : cvTOf Tryz.prog 64 = CvT.other := by kernel_rfl
@[go_sem] theorem sz65 : szOf Tryz.prog 65 = some Sz.one := by kernel_rfl
@[go_sem] theorem zo65 : zeroOf Tryz.prog 65 = some (Sz.one, SV.one (SC.pv PV.nilfn)) := by kernel_rfl
@[go_sem] theorem eq65 : eqTOf Tryz.prog 65 = EqT.other := by kernel_rfl
@[go_sem] theorem cv65 : cvTOf Tryz.prog 65 = CvT.other := by kernel_rfl
@[go_sem] theorem sz66 : szOf Tryz.prog 66 = some Sz.one := by kernel_rfl
@[go_sem] theorem zo66 : zeroOf Tryz.prog 66 = some (Sz.one, SV.one (SC.pv PV.nilfn)) := by kernel_rfl
@[go_sem] theorem eq66 : eqTOf Tryz.prog 66 = EqT.other := by kernel_rfl
@[go_sem] theorem cv66 : cvTOf Tryz.prog 66 = CvT.other := by kernel_rfl
@[go_sem] theorem sz67 : szOf Tryz.prog 67 = some Sz.one := by kernel_rfl
@[go_sem] theorem zo67 : zeroOf Tryz.prog 67 = some (Sz.one, SV.one (SC.pv PV.nilfn)) := by kernel_rfl
@[go_sem] theorem eq67 : eqTOf Tryz.prog 67 = EqT.other := by kernel_rfl
@[go_sem] theorem cv67 : cvTOf Tryz.prog 67 = CvT.other := by kernel_rfl
@[go_sem] theorem sz68 : szOf Tryz.prog 68 = some Sz.one := by kernel_rfl
@[go_sem] theorem zo68 : zeroOf Tryz.prog 68 = some (Sz.one, SV.one (SC.pv PV.nilfn)) := by kernel_rfl
@[go_sem] theorem eq68 : eqTOf Tryz.prog 68 = EqT.other := by kernel_rfl
@[go_sem] theorem cv68 : cvTOf Tryz.prog 68 = CvT.other := by kernel_rfl
@[go_sem] theorem sz69 : szOf Tryz.prog 69 = some Sz.one := by kernel_rfl
@[go_sem] theorem el69 : elemOf Tryz.prog 69 = some 75 := by kernel_rfl
@[go_sem] theorem es69 : elemSz Tryz.prog 69 = some (Sz.agg 2, 40) := by kernel_rfl
@[go_sem] theorem zo69 : zeroOf Tryz.prog 69 = some (Sz.one, SV.one SC.nilS) := by kernel_rfl
@[go_sem] theorem eq69 : eqTOf Tryz.prog 69 = EqT.other := by kernel_rfl
@[go_sem] theorem cv69 : cvTOf Tryz.prog 69 = CvT.other := by kernel_rfl
@[go_sem] theorem sz70 : szOf Tryz.prog 70 = some Sz.one := by kernel_rfl
@[go_sem] theorem zo70 : zeroOf Tryz.prog 70 = some (Sz.one, SV.one (SC.pv PV.nilfn)) := by kernel_rfl
@[go_sem] theorem eq70 : eqTOf Tryz.prog 70 = EqT.other := by kernel_rfl
@[go_sem] theorem cv70 : cvTOf Tryz.prog 70 = CvT.other := by kernel_rfl
@[go_sem] theorem sz71 : szOf Tryz.prog 71 = some Sz.one := by kernel_rfl
@[go_sem] theorem zo71 : zeroOf Tryz.prog 71 = some (Sz.one, SV.one (SC.pv PV.nilfn)) := by kernel_rfl
@[go_sem] theorem eq71 : eqTOf Tryz.prog 71 = EqT.other := by kernel_rfl
@[go_sem] theorem cv71 : cvTOf Tryz.prog 71 = CvT.other := by kernel_rfl
@[go_sem] theorem sz72 : szOf Tryz.prog 72 = some Sz.one := by kernel_rfl
@[go_sem] theorem zo72 : zeroOf Tryz.prog 72 = some (Sz.one, SV.one (SC.pv PV.nilfn)) := by kernel_rfl
@[go_sem] theorem eq72 : eqTOf Tryz.prog 72 = EqT.other := by kernel_rfl
@[go_sem] theorem cv72 : cvTOf Tryz.prog 72 = CvT.other := by kernel_rfl
@[go_sem] theorem sz73 : szOf Tryz.prog 73 = some Sz.one := by kernel_rfl
@[go_sem] theorem zo73 : zeroOf Tryz.prog 73 = some (Sz.one, SV.one (SC.pv PV.nilfn)) := by kernel_rfl
@[go_sem] theorem eq73 : eqTOf Tryz.prog 73 = EqT.other := by kernel_rfl
@[go_sem] theorem cv73 : cvTOf Tryz.prog 73 = CvT.other := by kernel_rfl
@[go_sem] theorem sz74 : szOf Tryz.prog 74 = some (Sz.agg 2) := by kernel_rfl
@[go_sem] theorem zo74 : zeroOf Tryz.prog 74 = some (Sz.agg 2, SV.agg [SC.pv (PV.str ByteArray.empty), SC.nilS]) := by kernel_rfl
@[go_sem] theorem pl74 : placesOf Tryz.prog 74 = some [(0, Sz.one), (1, Sz.agg 1)] := by kernel_rfl
@[go_sem] theorem eq74 : eqTOf Tryz.prog 74 = EqT.other := by kernel_rfl
@[go_sem] theorem cv74 : cvTOf Tryz.prog 74 = CvT.other := by kernel_rfl
@[go_sem] theorem fo74_0 : fieldOff Tryz.prog 74 0 = some 0 := by kernel_rfl
@[go_sem] theorem fs74_0 : fieldSz Tryz.prog 74 0 = some Sz.one := by kernel_rfl
@[go_sem] theorem fo74_1 : fieldOff Tryz.prog 74 1 = some 1 := by kernel_rfl
@[go_sem] theorem fs74_1 : fieldSz Tryz.prog 74 1 = some (Sz.agg 1) := by kernel_rfl
@[go_sem] theorem sz75 : szOf Tryz.prog 75 = some (Sz.agg 2) := by kernel_rfl
@[go_sem] theorem zo75 : zeroOf Tryz.prog 75 = some (Sz.agg 2, SV.agg [SC.pv (PV.str ByteArray.empty), SC.nilS]) := by kernel_rfl
@[go_sem] theorem pl75 : placesOf Tryz.prog 75 = some [(0, Sz.one), (1, Sz.agg 1)] := by kernel_rfl
@[go_sem] theorem eq75 : eqTOf Tryz.prog 75 = EqT.other := by kernel_rfl
@[go_sem] theorem cv75 : cvTOf Tryz.prog 75 = CvT.other := by kernel_rfl
@[go_sem] theorem fo75_0 : fieldOff Tryz.prog 75 0 = some 0 := by kernel_rfl
@[go_sem] theorem fs75_0 : fieldSz Tryz.prog 75 0 = some Sz.one := by kernel_rfl
@[go_sem] theorem fo75_1 : fieldOff Tryz.prog 75 1 = some 1 := by kernel_rfl
@[go_sem] theorem fs75_1 : fieldSz Tryz.prog 75 1 = some (Sz.agg 1) := by kernel_rfl
@[go_sem] theorem sz76 : szOf Tryz.prog 76 = some Sz.one := by kernel_rfl
@[go_sem] theorem zo76 : zeroOf Tryz.prog 76 = some (Sz.one, SV.one (SC.pv PV.nilfn)) := by kernel_rfl
@[go_sem] theorem eq76 : eqTOf Tryz.prog 76 = EqT.other := by kernel_rfl
@[go_sem] theorem cv76 : cvTOf Tryz.prog 76 = CvT.other := by kernel_rfl
@[go_sem] theorem sz77 : szOf Tryz.prog 77 = some Sz.one := by kernel_rfl
@[go_sem] theorem zo77 : zeroOf Tryz.prog 77 = some (Sz.one, SV.one (SC.pv PV.nilfn)) := by kernel_rfl
@[go_sem] theorem eq77 : eqTOf Tryz.prog 77 = EqT.other := by kernel_rfl
@[go_sem] theorem cv77 : cvTOf Tryz.prog 77 = CvT.other := by kernel_rfl
@[go_sem] theorem sz78 : szOf Tryz.prog 78 = some Sz.one := by kernel_rfl
@[go_sem] theorem eq78 : eqTOf Tryz.prog 78 = EqT.other := by kernel_rfl
@[go_sem] theorem cv78 : cvTOf Tryz.prog 78 = CvT.other := by kernel_rfl
@[go_sem] theorem sz79 : szOf Tryz.prog 79 = some Sz.one := by kernel_rfl
@[go_sem] theorem zo79 : zeroOf Tryz.prog 79 = some (Sz.one, SV.one (SC.pv PV.nilfn)) := by kernel_rfl
@[go_sem] theorem eq79 : eqTOf Tryz.prog 79 = EqT.other := by kernel_rfl
@[go_sem] theorem cv79 : cvTOf Tryz.prog 79 = CvT.other := by kernel_rfl
@[go_sem] theorem sz80 : szOf Tryz.prog 80 = some Sz.one := by kernel_rfl
@[go_sem] theorem eq80 : eqTOf Tryz.prog 80 = EqT.other := by kernel_rfl
@[go_sem] theorem cv80 : cvTOf Tryz.prog 80 = CvT.other := by kernel_rfl
@[go_sem] theorem sz81 : szOf Tryz.prog 81 = some Sz.one := by kernel_rfl
@[go_sem] theorem zo81 : zeroOf Tryz.prog 81 = some (Sz.one, SV.one (SC.pv PV.nilfn)) := by kernel_rfl
@[go_sem] theorem eq81 : eqTOf Tryz.prog 81 = EqT.other := by kernel_rfl
@[go_sem] theorem cv81 : cvTOf Tryz.prog 81 = CvT.other := by kernel_rfl
@[go_sem] theorem sz82 : szOf Tryz.prog 82 = some Sz.one := by kernel_rfl
@[go_sem] theorem zo82 : zeroOf Tryz.prog 82 = some (Sz.one, SV.one (SC.pv PV.nilfn)) := by kernel_rfl
@[go_sem] theorem eq82 : eqTOf Tryz.prog 82 = EqT.other := by kernel_rfl
@[go_sem] theorem cv82 : cvTOf Tryz.prog 82 = CvT.other := by kernel_rfl
@[go_sem] theorem sz83 : szOf Tryz.prog 83 = some Sz.one := by kernel_rfl
@[go_sem] theorem eq83 : eqTOf Tryz.prog 83 = EqT.other := by kernel_rfl
@[go_sem] theorem cv83 : cvTOf Tryz.prog 83 = CvT.other := by kernel_rfl
@[go_sem] theorem sz84 : szOf Tryz.prog 84 = some Sz.one := by kernel_rfl
@[go_sem] theorem zo84 : zeroOf Tryz.prog 84 = some (Sz.one, SV.one (SC.pv PV.nilfn)) := by kernel_rfl
@[go_sem] theorem eq84 : eqTOf Tryz.prog 84 = EqT.other := by kernel_rfl
@[go_sem] theorem cv84 : cvTOf Tryz.prog 84 = CvT.other := by kernel_rfl
@[go_sem] theorem sz85 : szOf Tryz.prog 85 = some Sz.one := by kernel_rfl
@[go_sem] theorem zo85 : zeroOf Tryz.prog 85 = some (Sz.one, SV.one (SC.pv PV.nilfn)) := by kernel_rfl
@[go_sem] theorem eq85 : eqTOf Tryz.prog 85 = EqT.other := by kernel_rfl
@[go_sem] theorem cv85 : cvTOf Tryz.prog 85 = CvT.other := by kernel_rfl
@[go_sem] theorem sz86 : szOf Tryz.prog 86 = some Sz.one := by kernel_rfl
@[go_sem] theorem zo86 : zeroOf Tryz.prog 86 = some (Sz.one, SV.one (SC.pv PV.nilfn)) := by kernel_rfl
@[go_sem] theorem eq86 : eqTOf Tryz.prog 86 = EqT.other := by kernel_rfl
@[go_sem] theorem cv86 : cvTOf Tryz.prog 86 = CvT.other := by kernel_rfl
@[go_sem] theorem sz87 : szOf Tryz.prog 87 = some Sz.one := by kernel_rfl
@[go_sem] theorem zo87 : zeroOf Tryz.prog 87 = some (Sz.one, SV.one (SC.pv PV.nilfn)) := by kernel_rfl
@[go_sem] theorem eq87 : eqTOf Tryz.prog 87 = EqT.other := by kernel_rfl
@[go_sem] theorem cv87 : cvTOf Tryz.prog 87 = CvT.other := by kernel_rfl
@[go_sem] theorem sz88 : szOf Tryz.prog 88 = some Sz.one := by kernel_rfl
@[go_sem] theorem zo88 : zeroOf Tryz.prog 88 = some (Sz.one, SV.one (SC.pv PV.nilfn)) := by kernel_rfl
@[go_sem] theorem eq88 : eqTOf Tryz.prog 88 = EqT.other := by kernel_rfl
@[go_sem] theorem cv88 : cvTOf Tryz.prog 88 = CvT.other := by kernel_rfl
@[go_sem] theorem sz89 : szOf Tryz.prog 89 = some Sz.one := by kernel_rfl
@[go_sem] theorem zo89 : zeroOf Tryz.prog 89 = some (Sz.one, SV.one (SC.pv PV.nilfn)) := by kernel_rfl
@[go_sem] theorem eq89 : eqTOf Tryz.prog 89 = EqT.other := by kernel_rfl
@[go_sem] theorem cv89 : cvTOf Tryz.prog 89 = CvT.other := by kernel_rfl
@[go_sem] theorem sz90 : szOf Tryz.prog 90 = some Sz.one := by kernel_rfl
@[go_sem] theorem zo90 : zeroOf Tryz.prog 90 = some (Sz.one, SV.one (SC.pv PV.nilfn)) := by kernel_rfl
@[go_sem] theorem eq90 : eqTOf Tryz.prog 90 = EqT.other := by kernel_rfl
@[go_sem] theorem cv90 : cvTOf Tryz.prog 90 = CvT.other := by kernel_rfl
@[go_sem] theorem sz91 : szOf Tryz.prog 91 = some Sz.one := by kernel_rfl
@[go_sem] theorem zo91 : zeroOf Tryz.prog 91 = some (Sz.one, SV.one (SC.pv PV.nilfn)) := by kernel_rfl
@[go_sem] theorem eq91 : eqTOf Tryz.prog 91 = EqT.other := by kernel_rfl
@[go_sem] theorem cv91 : cvTOf Tryz.prog 91 = CvT.other := by kernel_rfl
@[go_sem] theorem sz92 : szOf Tryz.prog 92 = some Sz.one := by kernel_rfl
@[go_sem] theorem zo92 : zeroOf Tryz.prog 92 = some (Sz.one, SV.one (SC.pv PV.nilfn)) := by kernel_rfl
@[go_sem] theorem eq92 : eqTOf Tryz.prog 92 = EqT.other := by kernel_rfl
@[go_sem] theorem cv92 : cvTOf Tryz.prog 92 = CvT.other := by kernel_rfl
@[go_sem] theorem sz93 : szOf Tryz.prog 93 = some Sz.one := by kernel_rfl
@[go_sem] theorem zo93 : zeroOf Tryz.prog 93 = some (Sz.one, SV.one (SC.pv PV.nilfn)) := by kernel_rfl
@[go_sem] theorem eq93 : eqTOf Tryz.prog 93 = EqT.other := by kernel_rfl
@[go_sem] theorem cv93 : cvTOf Tryz.prog 93 = CvT.other := by kernel_rfl
@[go_sem] theorem sz94 : szOf Tryz.prog 94 = some Sz.one := by kernel_rfl
@[go_sem] theorem zo94 : zeroOf Tryz.prog 94 = some (Sz.one, SV.one (SC.pv PV.nilfn)) := by kernel_rfl
@[go_sem] theorem eq94 : eqTOf Tryz.prog 94 = EqT.other := by kernel_rfl
@[go_sem] theorem cv94 : cvTOf Tryz.prog 94 = CvT.other := by kernel_rfl
@[go_sem] theorem sz95 : szOf Tryz.prog 95 = some Sz.one := by kernel_rfl
@[go_sem] theorem zo95 : zeroOf Tryz.prog 95 = some (Sz.one, SV.one (SC.pv PV.nilfn)) := by kernel_rfl
@[go_sem] theorem eq95 : eqTOf Tryz.prog 95 = EqT.other := by kernel_rfl
@[go_sem] theorem cv95 : cvTOf Tryz.prog 95 = CvT.other := by kernel_rfl
@[go_sem] theorem sz96 : szOf Tryz.prog 96 = some Sz.one := by kernel_rfl
@[go_sem] theorem zo96 : zeroOf Tryz.prog 96 = some (Sz.one, SV.one (SC.pv PV.nilfn)) := by kernel_rfl
@[go_sem] theorem eq96 : eqTOf Tryz.prog 96 = EqT.other := by kernel_rfl
@[go_sem] theorem cv96 : cvTOf Tryz.prog 96 = CvT.other := by kernel_rfl
@[go_sem] theorem sz97 : szOf Tryz.prog 97 = some Sz.one := by kernel_rfl
@[go_sem] theorem eq97 : eqTOf Tryz.prog 97 = EqT.other := by kernel_rfl
@[go_sem] theorem cv97 : cvTOf Tryz.prog 97 = CvT.other := by kernel_rfl
@[go_sem] theorem sz98 : szOf Tryz.prog 98 = some Sz.one := by kernel_rfl
@[go_sem] theorem zo98 : zeroOf Tryz.prog 98 = some (Sz.one, SV.one (SC.pv PV.nilfn)) := by kernel_rfl
@[go_sem] theorem eq98 : eqTOf Tryz.prog 98 = EqT.other := by kernel_rfl
@[go_sem] theorem cv98 : cvTOf Tryz.prog 98 = CvT.other := by kernel_rfl
@[go_sem] theorem sz99 : szOf Tryz.prog 99 = some Sz.one := by kernel_rfl
@[go_sem] theorem zo99 : zeroOf Tryz.prog 99 = some (Sz.one, SV.one (SC.pv PV.nilfn)) := by kernel_rfl
@[go_sem] theorem eq99 : eqTOf Tryz.prog 99 = EqT.other := by kernel_rfl
@[go_sem] theorem cv99 : cvTOf Tryz.prog 99 = CvT.other := by kernel_rfl
@[go_sem] theorem sz100 : szOf Tryz.prog 100 = some Sz.one := by kernel_rfl
@[go_sem] theorem zo100 : zeroOf Tryz.prog 100 = some (Sz.one, SV.one (SC.pv PV.nilfn)) := by kernel_rfl
@[go_sem] theorem eq100 : eqTOf Tryz.prog 100 = EqT.other := by kernel_rfl
@[go_sem] theorem cv100 : cvTOf Tryz.prog 100 = CvT.other := by kernel_rfl
@[go_sem] theorem sz101 : szOf Tryz.prog 101 = some Sz.one := by kernel_rfl
@[go_sem] theorem zo101 : zeroOf Tryz.prog 101 = some (Sz.one, SV.one (SC.pv PV.nilfn)) := by kernel_rfl
@[go_sem] theorem eq101 : eqTOf Tryz.prog 101 = EqT.other := by kernel_rfl
@[go_sem] theorem cv101 : cvTOf Tryz.prog 101 = CvT.other := by kernel_rfl
@[go_sem] theorem sz102 : szOf Tryz.prog 102 = some Sz.one := by kernel_rfl
@[go_sem] theorem zo102 : zeroOf Tryz.prog 102 = some (Sz.one, SV.one (SC.pv PV.nilfn)) := by kernel_rfl
@[go_sem] theorem eq102 : eqTOf Tryz.prog 102 = EqT.other := by kernel_rfl
@[go_sem] theorem cv102 : cvTOf Tryz.prog 102 = CvT.other := by kernel_rfl
@[go_sem] theorem sz103 : szOf Tryz.prog 103 = some Sz.one := by kernel_rfl
@[go_sem] theorem zo103 : zeroOf Tryz.prog 103 = some (Sz.one, SV.one (SC.pv PV.nilfn)) := by kernel_rfl
@[go_sem] theorem eq103 : eqTOf Tryz.prog 103 = EqT.other := by kernel_rfl
@[go_sem] theorem cv103 : cvTOf Tryz.prog 103 = CvT.other := by kernel_rfl
@[go_sem] theorem sz104 : szOf Tryz.prog 104 = some Sz.one := by kernel_rfl
@[go_sem] theorem zo104 : zeroOf Tryz.prog 104 = some (Sz.one, SV.one (SC.pv PV.nilfn)) := by kernel_rfl
@[go_sem] theorem eq104 : eqTOf Tryz.prog 104 = EqT.other := by kernel_rfl
@[go_sem] theorem cv104 : cvTOf Tryz.prog 104 = CvT.other := by kernel_rfl
@[go_sem] theorem sz105 : szOf Tryz.prog 105 = some Sz.one := by kernel_rfl
@[go_sem] theorem zo105 : zeroOf Tryz.prog 105 = some (Sz.one, SV.one (SC.pv PV.nilfn)) := by kernel_rfl
@[go_sem] theorem eq105 : eqTOf Tryz.prog 105 = EqT.other := by kernel_rfl
@[go_sem] theorem cv105 : cvTOf Tryz.prog 105 = CvT.other := by kernel_rfl
@[go_sem] theorem sz106 : szOf Tryz.prog 106 = some Sz.one := by kernel_rfl
@[go_sem] theorem zo106 : zeroOf Tryz.prog 106 = some (Sz.one, SV.one (SC.pv PV.nilfn)) := by kernel_rfl
@[go_sem] theorem eq106 : eqTOf Tryz.prog 106 = EqT.other := by kernel_rfl
@[go_sem] theorem cv106 : cvTOf Tryz.prog 106 = CvT.other := by kernel_rfl
@[go_sem] theorem sz107 : szOf Tryz.prog 107 = some Sz.one := by kernel_rfl
@[go_sem] theorem eq107 : eqTOf Tryz.prog 107 = EqT.other := by kernel_rfl
@[go_sem] theorem cv107 : cvTOf Tryz.prog 107 = CvT.other := by kernel_rfl
@[go_sem] theorem sz108 : szOf Tryz.prog 108 = some Sz.one := by kernel_rfl
@[go_sem] theorem zo108 : zeroOf Tryz.prog 108 = some (Sz.one, SV.one (SC.pv PV.nilfn)) := by kernel_rfl
@[go_sem] theorem eq108 : eqTOf Tryz.prog 108 = EqT.other := by kernel_rfl
@[go_sem] theorem cv108 : cvTOf Tryz.prog 108 = CvT.other := by kernel_rfl
@[go_sem] theorem sz109 : szOf Tryz.prog 109 = some Sz.one := by kernel_rfl
@[go_sem] theorem zo109 : zeroOf Tryz.prog 109 = some (Sz.one, SV.one (SC.pv PV.nilfn)) := by kernel_rfl
@[go_sem] theorem eq109 : eqTOf Tryz.prog 109 = EqT.other := by kernel_rfl
@[go_sem] theorem cv109 : cvTOf Tryz.prog 109 = CvT.other := by kernel_rfl
@[go_sem] theorem sz110 : szOf Tryz.prog 110 = some Sz.one := by kernel_rfl
@[go_sem] theorem zo110 : zeroOf Tryz.prog 110 = some (Sz.one, SV.one (SC.pv PV.nilfn)) := by kernel_rfl
@[go_sem] theorem eq110 : eqTOf Tryz.prog 110 = EqT.other := by kernel_rfl
@[go_sem] theorem cv110 : cvTOf Tryz.prog 110 = CvT.other := by kernel_rfl
@[go_sem] theorem sz111 : szOf Tryz.prog 111 = some Sz.one := by kernel_rfl
@[go_sem] theorem zo111 : zeroOf Tryz.prog 111 = some (Sz.one, SV.one (SC.pv PV.nilfn)) := by kernel_rfl
@[go_sem] theorem eq111 : eqTOf Tryz.prog 111 = EqT.other := by kernel_rfl
@[go_sem] theorem cv111 : cvTOf Tryz.prog 111 = CvT.other := by kernel_rfl
@[go_sem] theorem sz112 : szOf Tryz.prog 112 = some (Sz.agg 2) := by kernel_rfl
@[go_sem] theorem zo112 : zeroOf Tryz.prog 112 = some (Sz.agg 2, SV.agg [SC.pv PV.nilfn, SC.pv PV.nilfn]) := by kernel_rfl
@[go_sem] theorem pl112 : placesOf Tryz.prog 112 = some [(0, Sz.one), (1, Sz.one)] := by kernel_rfl
@[go_sem] theorem eq112 : eqTOf Tryz.prog 112 = EqT.other := by kernel_rfl
@[go_sem] theorem cv112 : cvTOf Tryz.prog 112 = CvT.other := by kernel_rfl
@[go_sem] theorem fo112_0 : fieldOff Tryz.prog 112 0 = some 0 := by kernel_rfl
@[go_sem] theorem fs112_0 : fieldSz Tryz.prog 112 0 = some Sz.one := by kernel_rfl
@[go_sem] theorem fo112_1 : fieldOff Tryz.prog 112 1 = some 1 := by kernel_rfl
@[go_sem] theorem fs112_1 : fieldSz Tryz.prog 112 1 = some Sz.one := by kernel_rfl
@[go_sem] theorem sz113 : szOf Tryz.prog 113 = some (Sz.agg 2) := by kernel_rfl
@[go_sem] theorem zo113 : zeroOf Tryz.prog 113 = some (Sz.agg 2, SV.agg [SC.pv PV.nilfn, SC.pv PV.nilfn]) := by kernel_rfl
@[go_sem] theorem pl113 : placesOf Tryz.prog 113 = some [(0, Sz.one), (1, Sz.one)] := by kernel_rfl
@[go_sem] theorem eq113 : eqTOf Tryz.prog 113 = EqT.other := by kernel_rfl
@[go_sem] theorem cv113 : cvTOf Tryz.prog 113 = CvT.other := by kernel_rfl
@[go_sem] theorem fo113_0 : fieldOff Tryz.prog 113 0 = some 0 := by kernel_rfl
@[go_sem] theorem fs113_0 : fieldSz Tryz.prog 113 0 = some Sz.one := by kernel_rfl
@[go_sem] theorem fo113_1 : fieldOff Tryz.prog 113 1 = some 1 := by kernel_rfl
@[go_sem] theorem fs113_1 : fieldSz Tryz.prog 113 1 = some Sz.one := by kernel_rfl
@[go_sem] theorem sz114 : szOf Tryz.prog 114 = some Sz.one := by kernel_rfl
@[go_sem] theorem zo114 : zeroOf Tryz.prog 114 = some (Sz.one, SV.one (SC.pv PV.nilfn)) := by kernel_rfl
@[go_sem] theorem eq114 : eqTOf Tryz.prog 114 = EqT.other := by kernel_rfl
@[go_sem] theorem cv114 : cvTOf Tryz.prog 114 = CvT.other := by kernel_rfl
@[go_sem] theorem sz115 : szOf Tryz.prog 115 = some Sz.one := by kernel_rfl
@[go_sem] theorem zo115 : zeroOf Tryz.prog 115 = some (Sz.one, SV.one (SC.pv PV.nilfn)) := by kernel_rfl
@[go_sem] theorem eq115 : eqTOf Tryz.prog 115 = EqT.other := by kernel_rfl
@[go_sem] theorem cv115 : cvTOf Tryz.prog 115 = CvT.other := by kernel_rfl
@[go_sem] theorem sz116 : szOf Tryz.prog 116 = some (Sz.agg 2) := by kernel_rfl
@[go_sem] theorem zo116 : zeroOf Tryz.prog 116 = some (Sz.agg 2, SV.agg [SC.pv (PV.int IntKind.i64 0), SC.pv (PV.int IntKind.i64 0)]) := by kernel_rfl
@[go_sem] theorem pl116 : placesOf Tryz.prog 116 = some [(0, Sz.one), (1, Sz.one)] := by kernel_rfl
@[go_sem] theorem eq116 : eqTOf Tryz.prog 116 = EqT.other := by kernel_rfl
@[go_sem] theorem cv116 : cvTOf Tryz.prog 116 = CvT.other := by kernel_rfl
@[go_sem] theorem fo116_0 : fieldOff Tryz.prog 116 0 = some 0 := by kernel_rfl
@[go_sem] theorem fs116_0 : fieldSz Tryz.prog 116 0 = some Sz.one := by kernel_rfl
@[go_sem] theorem fo116_1 : fieldOff Tryz.prog 116 1 = some 1 := by kernel_rfl
@[go_sem] theorem fs116_1 : fieldSz Tryz.prog 116 1 = some Sz.one := by kernel_rfl
@[go_sem] theorem sz117 : szOf Tryz.prog 117 = some (Sz.agg 2) := by kernel_rfl
@[go_sem] theorem zo117 : zeroOf Tryz.prog 117 = some (Sz.agg 2, SV.agg [SC.pv (PV.int IntKind.i64 0), SC.pv (PV.int IntKind.i64 0)]) := by kernel_rfl
@[go_sem] theorem pl117 : placesOf Tryz.prog 117 = some [(0, Sz.one), (1, Sz.one)] := by kernel_rfl
@[go_sem] theorem eq117 : eqTOf Tryz.prog 117 = EqT.other := by kernel_rfl
@[go_sem] theorem cv117 : cvTOf Tryz.prog 117 = CvT.other := by kernel_rfl
@[go_sem] theorem fo117_0 : fieldOff Tryz.prog 117 0 = some 0 := by kernel_rfl
@[go_sem] theorem fs117_0 : fieldSz Tryz.prog 117 0 = some Sz.one := by kernel_rfl
@[go_sem] theorem fo117_1 : fieldOff Tryz.prog 117 1 = some 1 := by kernel_rfl
@[go_sem] theorem fs117_1 : fieldSz Tryz.prog 117 1 = some Sz.one := by kernel_rfl
@[go_sem] theorem sz118 : szOf Tryz.prog 118 = some Sz.one := by kernel_rfl
@[go_sem] theorem zo118 : zeroOf Tryz.prog 118 = some (Sz.one, SV.one (SC.pv PV.nilfn)) := by kernel_rfl
@[go_sem] theorem eq118 : eqTOf Tryz.prog 118 = EqT.other := by kernel_rfl
@[go_sem] theorem cv118 : cvTOf Tryz.prog 118 = CvT.other := by kernel_rfl
@[go_sem] theorem sz119 : szOf Tryz.prog 119 = some Sz.one := by kernel_rfl
@[go_sem] theorem zo119 : zeroOf Tryz.prog 119 = some (Sz.one, SV.one (SC.pv PV.nilfn)) := by kernel_rfl
@[go_sem] theorem eq119 : eqTOf Tryz.prog 119 = EqT.other := by kernel_rfl
@[go_sem] theorem cv119 : cvTOf Tryz.prog 119 = CvT.other := by kernel_rfl
@[go_sem] theorem sz120 : szOf Tryz.prog 120 = some Sz.one := by kernel_rfl
@[go_sem] theorem zo120 : zeroOf Tryz.prog 120 = some (Sz.one, SV.one (SC.pv PV.nilfn)) := by kernel_rfl
@[go_sem] theorem eq120 : eqTOf Tryz.prog 120 = EqT.other := by kernel_rfl
@[go_sem] theorem cv120 : cvTOf Tryz.prog 120 = CvT.other := by kernel_rfl
@[go_sem] theorem sz121 : szOf Tryz.prog 121 = some Sz.one := by kernel_rfl
@[go_sem] theorem zo121 : zeroOf Tryz.prog 121 = some (Sz.one, SV.one (SC.pv PV.nilfn)) := by kernel_rfl
@[go_sem] theorem eq121 : eqTOf Tryz.prog 121 = EqT.other := by kernel_rfl
@[go_sem] theorem cv121 : cvTOf Tryz.prog 121 = CvT.other := by kernel_rfl
@[go_sem] theorem sz122 : szOf Tryz.prog 122 = some Sz.one := by kernel_rfl
@[go_sem] theorem zo122 : zeroOf Tryz.prog 122 = some (Sz.one, SV.one (SC.pv PV.nilfn)) := by kernel_rfl
@[go_sem] theorem eq122 : eqTOf Tryz.prog 122 = EqT.other := by kernel_rfl
@[go_sem] theorem cv122 : cvTOf Tryz.prog 122 = CvT.other := by kernel_rfl
@[go_sem] theorem sz123 : szOf Tryz.prog 123 = some Sz.one := by kernel_rfl
@[go_sem] theorem zo123 : zeroOf Tryz.prog 123 = some (Sz.one, SV.one (SC.pv PV.nilfn)) := by kernel_rfl
@[go_sem] theorem eq123 : eqTOf Tryz.prog 123 = EqT.other := by kernel_rfl
@[go_sem] theorem cv123 : cvTOf Tryz.prog 123 = CvT.other := by kernel_rfl
@[go_sem] theorem sz124 : szOf Tryz.prog 124 = some Sz.one := by kernel_rfl
@[go_sem] theorem eq124 : eqTOf Tryz.prog 124 = EqT.other := by kernel_rfl
@[go_sem] theorem cv124 : cvTOf Tryz.prog 124 = CvT.other := by kernel_rfl
@[go_sem] theorem sz125 : szOf Tryz.prog 125 = some Sz.one := by kernel_rfl
@[go_sem] theorem zo125 : zeroOf Tryz.prog 125 = some (Sz.one, SV.one (SC.pv PV.nilfn)) := by kernel_rfl
@[go_sem] theorem eq125 : eqTOf Tryz.prog 125 = EqT.other := by kernel_rfl
@[go_sem] theorem cv125 : cvTOf Tryz.prog 125 = CvT.other := by kernel_rfl
@[go_sem] theorem sz126 : szOf Tryz.prog 126 = some Sz.one := by kernel_rfl
@[go_sem] theorem zo126 : zeroOf Tryz.prog 126 = some (Sz.one, SV.one (SC.pv PV.nilfn)) := by kernel_rfl
@[go_sem] theorem eq126 : eqTOf Tryz.prog 126 = EqT.other := by kernel_rfl
@[go_sem] theorem cv126 : cvTOf Tryz.prog 126 = CvT.other := by kernel_rfl
@[go_sem] theorem sz127 : szOf Tryz.prog 127 = some Sz.one := by kernel_rfl
@[go_sem] theorem zo127 : zeroOf Tryz.prog 127 = some (Sz.one, SV.one (SC.pv PV.nilfn)) := by kernel_rfl
@[go_sem] theorem eq127 : eqTOf Tryz.prog 127 = EqT.other := by kernel_rfl
@[go_sem] theorem cv127 : cvTOf Tryz.prog 127 = CvT.other := by kernel_rfl
@[go_sem] theorem sz128 : szOf Tryz.prog 128 = some Sz.one := by kernel_rfl
@[go_sem] theorem zo128 : zeroOf Tryz.prog 128 = some (Sz.one, SV.one (SC.pv PV.nilfn)) := by kernel_rfl
@[go_sem] theorem eq128 : eqTOf Tryz.prog 128 = EqT.other := by kernel_rfl
@[go_sem] theorem cv128 : cvTOf Tryz.prog 128 = CvT.other := by kernel_rfl
@[go_sem] theorem sz129 : szOf Tryz.prog 129 = some Sz.one := by kernel_rfl
@[go_sem] theorem zo129 : zeroOf Tryz.prog 129 = some (Sz.one, SV.one (SC.pv PV.nilfn)) := by kernel_rfl
@[go_sem] theorem eq129 : eqTOf Tryz.prog 129 = EqT.other := by kernel_rfl
@[go_sem] theorem cv129 : cvTOf Tryz.prog 129 = CvT.other := by kernel_rfl
@[go_sem] theorem sz130 : szOf Tryz.prog 130 = some Sz.one := by kernel_rfl
@[go_sem] theorem zo130 : zeroOf Tryz.prog 130 = some (Sz.one, SV.one (SC.pv PV.nilfn)) := by kernel_rfl
@[go_sem] theorem eq130 : eqTOf Tryz.prog 130 = EqT.other := by kernel_rfl
@[go_sem] theorem cv130 : cvTOf Tryz.prog 130 = CvT.other := by kernel_rfl
@[go_sem] theorem sz131 : szOf Tryz.prog 131 = some Sz.one := by kernel_rfl
@[go_sem] theorem zo131 : zeroOf Tryz.prog 131 = some (Sz.one, SV.one (SC.pv PV.nilfn)) := by kernel_rfl
@[go_sem] theorem eq131 : eqTOf Tryz.prog 131 = EqT.other := by kernel_rfl
@[go_sem] theorem cv131 : cvTOf Tryz.prog 131 = CvT.other := by kernel_rfl
@[go_sem] theorem sz132 : szOf Tryz.prog 132 = some Sz.one := by kernel_rfl
@[go_sem] theorem zo132 : zeroOf Tryz.prog 132 = some (Sz.one, SV.one (SC.pv PV.nilfn)) := by kernel_rfl
@[go_sem] theorem eq132 : eqTOf Tryz.prog 132 = EqT.other := by kernel_rfl
@[go_sem] theorem cv132 : cvTOf Tryz.prog 132 = CvT.other := by kernel_rfl
@[go_sem] theorem sz133 : szOf Tryz.prog 133 = some Sz.one := by kernel_rfl
@[go_sem] theorem zo133 : zeroOf Tryz.prog 133 = some (Sz.one, SV.one (SC.pv PV.nilfn)) := by kernel_rfl
@[go_sem] theorem eq133 : eqTOf Tryz.prog 133 = EqT.other := by kernel_rfl
@[go_sem] theorem cv133 : cvTOf Tryz.prog 133 = CvT.other := by kernel_rfl
@[go_sem] theorem sz134 : szOf Tryz.prog 134 = some Sz.one := by kernel_rfl
@[go_sem] theorem eq134 : eqTOf Tryz.prog 134 = EqT.other := by kernel_rfl
@[go_sem] theorem cv134 : cvTOf Tryz.prog 134 = CvT.other := by kernel_rfl
@[go_sem] theorem sz135 : szOf Tryz.prog 135 = some Sz.one := by kernel_rfl
@[go_sem] theorem zo135 : zeroOf Tryz.prog 135 = some (Sz.one, SV.one (SC.pv PV.nilfn)) := by kernel_rfl
@[go_sem] theorem eq135 : eqTOf Tryz.prog 135 = EqT.other := by kernel_rfl
@[go_sem] theorem cv135 : cvTOf Tryz.prog 135 = CvT.other := by kernel_rfl
@[go_sem] theorem sz136 : szOf Tryz.prog 136 = some Sz.one := by kernel_rfl
@[go_sem] theorem zo136 : zeroOf Tryz.prog 136 = some (Sz.one, SV.one (SC.pv PV.nilfn)) := by kernel_rfl
@[go_sem] theorem eq136 : eqTOf Tryz.prog 136 = EqT.other := by kernel_rfl
@[go_sem] theorem cv136 : cvTOf Tryz.prog 136 = CvT.other := by kernel_rfl
@[go_sem] theorem sz137 : szOf Tryz.prog 137 = some Sz.one := by kernel_rfl
@[go_sem] theorem zo137 : zeroOf Tryz.prog 137 = some (Sz.one, SV.one (SC.pv PV.nilfn)) := by kernel_rfl
@[go_sem] theorem eq137 : eqTOf Tryz.prog 137 = EqT.other := by kernel_rfl
@[go_sem] theorem cv137 : cvTOf Tryz.prog 137 = CvT.other := by kernel_rfl
@[go_sem] theorem sz138 : szOf Tryz.prog 138 = some Sz.one := by kernel_rfl
@[go_sem] theorem zo138 : zeroOf Tryz.prog 138 = some (Sz.one, SV.one (SC.pv PV.nilfn)) := by kernel_rfl
@[go_sem] theorem eq138 : eqTOf Tryz.prog 138 = EqT.other := by kernel_rfl
@[go_sem] theorem cv138 : cvTOf Tryz.prog 138 = CvT.other := by kernel_rfl
@[go_sem] theorem sz139 : szOf Tryz.prog 139 = some Sz.one := by kernel_rfl
@[go_sem] theorem zo139 : zeroOf Tryz.prog 139 = some (Sz.one, SV.one (SC.pv PV.nilfn)) := by kernel_rfl
@[go_sem] theorem eq139 : eqTOf Tryz.prog 139 = EqT.other := by kernel_rfl
@[go_sem] theorem cv139 : cvTOf Tryz.prog 139 = CvT.other := by kernel_rfl
@[go_sem] theorem sz140 : szOf Tryz.prog 140 = some Sz.one := by kernel_rfl
@[go_sem] theorem zo140 : zeroOf Tryz.prog 140 = some (Sz.one, SV.one (SC.pv PV.nilfn)) := by kernel_rfl
@[go_sem] theorem eq140 : eqTOf Tryz.prog 140 = EqT.other := by kernel_rfl
@[go_sem] theorem cv140 : cvTOf Tryz.prog 140 = CvT.other := by kernel_rfl
@[go_sem] theorem sz141 : szOf Tryz.prog 141 = some Sz.one := by kernel_rfl
@[go_sem] theorem zo141 : zeroOf Tryz.prog 141 = some (Sz.one, SV.one (SC.pv PV.nilfn)) := by kernel_rfl
@[go_sem] theorem eq141 : eqTOf Tryz.prog 141 = EqT.other := by kernel_rfl
@[go_sem] theorem cv141 : cvTOf Tryz.prog 141 = CvT.other := by kernel_rfl
@[go_sem] theorem sz142 : szOf Tryz.prog 142 = some Sz.one := by kernel_rfl
@[go_sem] theorem zo142 : zeroOf Tryz.prog 142 = some (Sz.one, SV.one (SC.pv PV.nilfn)) := by kernel_rfl
@[go_sem] theorem eq142 : eqTOf Tryz.prog 142 = EqT.other := by kernel_rfl
@[go_sem] theorem cv142 : cvTOf Tryz.prog 142 = CvT.other := by kernel_rfl
@[go_sem] theorem sz143 : szOf Tryz.prog 143 = some Sz.one := by kernel_rfl
@[go_sem] theorem zo143 : zeroOf Tryz.prog 143 = some (Sz.one, SV.one (SC.pv PV.nilfn)) := by kernel_rfl
@[go_sem] theorem eq143 : eqTOf Tryz.prog 143 = EqT.other := by kernel_rfl
@[go_sem] theorem cv143 : cvTOf Tryz.prog 143 = CvT.other := by kernel_rfl
@[go_sem] theorem sz144 : szOf Tryz.prog 144 = some Sz.one := by kernel_rfl
@[go_sem] theorem zo144 : zeroOf Tryz.prog 144 = some (Sz.one, SV.one (SC.pv PV.nilfn)) := by kernel_rfl
@[go_sem] theorem eq144 : eqTOf Tryz.prog 144 = EqT.other := by kernel_rfl
@[go_sem] theorem cv144 : cvTOf Tryz.prog 144 = CvT.other := by kernel_rfl
@[go_sem] theorem sz145 : szOf Tryz.prog 145 = some Sz.one := by kernel_rfl
@[go_sem] theorem zo145 : zeroOf Tryz.prog 145 = some (Sz.one, SV.one (SC.pv PV.nilfn)) := by kernel_rfl
@[go_sem] theorem eq145 : eqTOf Tryz.prog 145 = EqT.other := by kernel_rfl
@[go_sem] theorem cv145 : cvTOf Tryz.prog 145 = CvT.other := by kernel_rfl
@[go_sem] theorem sz146 : szOf Tryz.prog 146 = some Sz.one := by kernel_rfl
@[go_sem] theorem zo146 : zeroOf Tryz.prog 146 = some (Sz.one, SV.one (SC.pv PV.nilfn)) := by kernel_rfl
@[go_sem] theorem eq146 : eqTOf Tryz.prog 146 = EqT.other := by kernel_rfl
@[go_sem] theorem cv146 : cvTOf Tryz.prog 146 = CvT.other := by kernel_rfl
@[go_sem] theorem sz147 : szOf Tryz.prog 147 = some Sz.one := by kernel_rfl
@[go_sem] theorem zo147 : zeroOf Tryz.prog 147 = some (Sz.one, SV.one (SC.pv PV.nilfn)) := by kernel_rfl
@[go_sem] theorem eq147 : eqTOf Tryz.prog 147 = EqT.other := by kernel_rfl
@[go_sem] theorem cv147 : cvTOf Tryz.prog 147 = CvT.other := by kernel_rfl
@[go_sem] theorem sz148 : szOf Tryz.prog 148 = some Sz.one := by kernel_rfl
@[go_sem] theorem zo148 : zeroOf Tryz.prog 148 = some (Sz.one, SV.one (SC.pv PV.nilfn)) := by kernel_rfl
@[go_sem] theorem eq148 : eqTOf Tryz.prog 148 = EqT.other := by kernel_rfl
@[go_sem] theorem cv148 : cvTOf Tryz.prog 148 = CvT.other := by kernel_rfl
@[go_sem] theorem sz149 : szOf Tryz.prog 149 = some Sz.one := by kernel_rfl
@[go_sem] theorem zo149 : zeroOf Tryz.prog 149 = some (Sz.one, SV.one (SC.pv PV.nilfn)) := by kernel_rfl
@[go_sem] theorem eq149 : eqTOf Tryz.prog 149 = EqT.other := by kernel_rfl
@[go_sem] theorem cv149 : cvTOf Tryz.prog 149 = CvT.other := by kernel_rfl
@[go_sem] theorem sz150 : szOf Tryz.prog 150 = some Sz.one := by kernel_rfl
@[go_sem] theorem zo150 : zeroOf Tryz.prog 150 = some (Sz.one, SV.one (SC.pv PV.nilfn)) := by kernel_rfl
@[go_sem] theorem eq150 : eqTOf Tryz.prog 150 = EqT.other := by kernel_rfl
@[go_sem] theorem cv150 : cvTOf Tryz.prog 150 = CvT.other := by kernel_rfl
@[go_sem] theorem sz151 : szOf Tryz.prog 151 = some Sz.one := by kernel_rfl
@[go_sem] theorem zo151 : zeroOf Tryz.prog 151 = some (Sz.one, SV.one (SC.pv PV.nilfn)) := by kernel_rfl
@[go_sem] theorem eq151 : eqTOf Tryz.prog 151 = EqT.other := by kernel_rfl
@[go_sem] theorem cv151 : cvTOf Tryz.prog 151 = CvT.other := by kernel_rfl
@[go_sem] theorem sz152 : szOf Tryz.prog 152 = some Sz.one := by kernel_rfl
@[go_sem] theorem zo152 : zeroOf Tryz.prog 152 = some (Sz.one, SV.one (SC.pv PV.nilfn)) := by kernel_rfl
@[go_sem] theorem eq152 : eqTOf Tryz.prog 152 = EqT.other := by kernel_rfl
@[go_sem] theorem cv152 : cvTOf Tryz.prog 152 = CvT.other := by kernel_rfl
@[go_sem] theorem sz153 : szOf Tryz.prog 153 = some Sz.one := by kernel_rfl
@[go_sem] theorem eq153 : eqTOf Tryz.prog 153 = EqT.other := by kernel_rfl
@[go_sem] theorem cv153 : cvTOf Tryz.prog 153 = CvT.other := by kernel_rfl
@[go_sem] theorem sz154 : szOf Tryz.prog 154 = some Sz.one := by kernel_rfl
@[go_sem] theorem zo154 : zeroOf Tryz.prog 154 = some (Sz.one, SV.one (SC.pv PV.nilfn)) := by kernel_rfl
@[go_sem] theorem eq154 : eqTOf Tryz.prog 154 = EqT.other := by kernel_rfl
@[go_sem] theorem cv154 : cvTOf Tryz.prog 154 = CvT.other := by kernel_rfl
@[go_sem] theorem sz155 : szOf Tryz.prog 155 = some Sz.one := by kernel_rfl
@[go_sem] theorem zo155 : zeroOf Tryz.prog 155 = some (Sz.one, SV.one (SC.pv PV.nilfn)) := by kernel_rfl
@[go_sem] theorem eq155 : eqTOf Tryz.prog 155 = EqT.other := by kernel_rfl
@[go_sem] theorem cv155 : cvTOf Tryz.prog 155 = CvT.other := by kernel_rfl
@[go_sem] theorem sz156 : szOf Tryz.prog 156 = some Sz.one := by kernel_rfl
@[go_sem] theorem zo156 : zeroOf Tryz.prog 156 = some (Sz.one, SV.one (SC.pv PV.nilfn)) := by kernel_rfl
@[go_sem] theorem eq156 : eqTOf Tryz.prog 156 = EqT.other := by kernel_rfl
@[go_sem] theorem cv156 : cvTOf Tryz.prog 156 = CvT.other := by kernel_rfl
@[go_sem] theorem sz157 : szOf Tryz.prog 157 = some Sz.one := by kernel_rfl
@[go_sem] theorem zo157 : zeroOf Tryz.prog 157 = some (Sz.one, SV.one (SC.pv PV.nilfn)) := by kernel_rfl
@[go_sem] theorem eq157 : eqTOf Tryz.prog 157 = EqT.other := by kernel_rfl
@[go_sem] theorem cv157 : cvTOf Tryz.prog 157 = CvT.other := by kernel_rfl
@[go_sem] theorem sz158 : szOf Tryz.prog 158 = some Sz.one := by kernel_rfl
@[go_sem] theorem zo158 : zeroOf Tryz.prog 158 = some (Sz.one, SV.one (SC.pv PV.nilfn)) := by kernel_rfl
@[go_sem] theorem eq158 : eqTOf Tryz.prog 158 = EqT.other := by kernel_rfl
@[go_sem] theorem cv158 : cvTOf Tryz.prog 158 = CvT.other := by kernel_rfl
@[go_sem] theorem sz159 : szOf Tryz.prog 159 = some Sz.one := by kernel_rfl
@[go_sem] theorem zo159 : zeroOf Tryz.prog 159 = some (Sz.one, SV.one (SC.pv PV.nilfn)) := by kernel_rfl
@[go_sem] theorem eq159 : eqTOf Tryz.prog 159 = EqT.other := by kernel_rfl
@[go_sem] theorem cv159 : cvTOf Tryz.prog 159 = CvT.other := by kernel_rfl
@[go_sem] theorem sz160 : szOf Tryz.prog 160 = some Sz.one := by kernel_rfl
@[go_sem] theorem el160 : elemOf Tryz.prog 160 = some 26 := by kernel_rfl
@[go_sem] theorem es160 : elemSz Tryz.prog 160 = some (Sz.one, 24) := by kernel_rfl
@[go_sem] theorem zo160 : zeroOf Tryz.prog 160 = some (Sz.one, SV.one SC.nilS) := by kernel_rfl
@[go_sem] theorem eq160 : eqTOf Tryz.prog 160 = EqT.other := by kernel_rfl
@[go_sem] theorem cv160 : cvTOf Tryz.prog 160 = CvT.other := by kernel_rfl
@[go_sem] theorem sz161 : szOf Tryz.prog 161 = some Sz.one := by kernel_rfl
@[go_sem] theorem zo161 : zeroOf Tryz.prog 161 = some (Sz.one, SV.one (SC.pv PV.nilfn)) := by kernel_rfl
@[go_sem] theorem eq161 : eqTOf Tryz.prog 161 = EqT.other := by kernel_rfl
@[go_sem] theorem cv161 : cvTOf Tryz.prog 161 = CvT.other := by kernel_rfl
@[go_sem] theorem sz162 : szOf Tryz.prog 162 = some Sz.one := by kernel_rfl
@[go_sem] theorem zo162 : zeroOf Tryz.prog 162 = some (Sz.one, SV.one SC.any) := by kernel_rfl
@[go_sem] theorem eq162 : eqTOf Tryz.prog 162 = EqT.other := by kernel_rfl
@[go_sem] theorem cv162 : cvTOf Tryz.prog 162 = CvT.other := by kernel_rfl
@[go_sem] theorem mp162 : mapTOf Tryz.prog 162 = true := by kernel_rfl
@[go_sem] theorem sz163 : szOf Tryz.prog 163 = some Sz.one := by kernel_rfl
@[go_sem] theorem zo163 : zeroOf Tryz.prog 163 = some (Sz.one, SV.one (SC.pv PV.nilfn)) := by kernel_rfl
@[go_sem] theorem eq163 : eqTOf Tryz.prog 163 = EqT.other := by kernel_rfl
@[go_sem] theorem cv163 : cvTOf Tryz.prog 163 = CvT.other := by kernel_rfl
@[go_sem] theorem sz164 : szOf Tryz.prog 164 = some Sz.one := by kernel_rfl
@[go_sem] theorem zo164 : zeroOf Tryz.prog 164 = some (Sz.one, SV.one (SC.pv PV.nilfn)) := by kernel_rfl
@[go_sem] theorem eq164 : eqTOf Tryz.prog 164 = EqT.other := by kernel_rfl
@[go_sem] theorem cv164 : cvTOf Tryz.prog 164 = CvT.other := by kernel_rfl
@[go_sem] theorem sz165 : szOf Tryz.prog 165 = some Sz.one := by kernel_rfl
@[go_sem] theorem zo165 : zeroOf Tryz.prog 165 = some (Sz.one, SV.one (SC.pv PV.nilfn)) := by kernel_rfl
@[go_sem] theorem eq165 : eqTOf Tryz.prog 165 = EqT.other := by kernel_rfl
@[go_sem] theorem cv165 : cvTOf Tryz.prog 165 = CvT.other := by kernel_rfl
@[go_sem] theorem sz166 : szOf Tryz.prog 166 = some Sz.one := by kernel_rfl
@[go_sem] theorem zo166 : zeroOf Tryz.prog 166 = some (Sz.one, SV.one (SC.pv PV.nilfn)) := by kernel_rfl
@[go_sem] theorem eq166 : eqTOf Tryz.prog 166 = EqT.other := by kernel_rfl
@[go_sem] theorem cv166 : cvTOf Tryz.prog 166 = CvT.other := by kernel_rfl
@[go_sem] theorem sz167 : szOf Tryz.prog 167 = some Sz.one := by kernel_rfl
@[go_sem] theorem zo167 : zeroOf Tryz.prog 167 = some (Sz.one, SV.one (SC.pv PV.nilfn)) := by kernel_rfl
@[go_sem] theorem eq167 : eqTOf Tryz.prog 167 = EqT.other := by kernel_rfl
@[go_sem] theorem cv167 : cvTOf Tryz.prog 167 = CvT.other := by kernel_rfl
@[go_sem] theorem sz168 : szOf Tryz.prog 168 = some Sz.one := by kernel_rfl
@[go_sem] theorem zo168 : zeroOf Tryz.prog 168 = some (Sz.one, SV.one (SC.pv PV.nilfn)) := by kernel_rfl
@[go_sem] theorem eq168 : eqTOf Tryz.prog 168 = EqT.other := by kernel_rfl
@[go_sem] theorem cv168 : cvTOf Tryz.prog 168 = CvT.other := by kernel_rfl
@[go_sem] theorem sz169 : szOf Tryz.prog 169 = some Sz.one := by kernel_rfl
@[go_sem] theorem zo169 : zeroOf Tryz.prog 169 = some (Sz.one, SV.one (SC.pv PV.nilfn)) := by kernel_rfl
@[go_sem] theorem eq169 : eqTOf Tryz.prog 169 = EqT.other := by kernel_rfl
@[go_sem] theorem cv169 : cvTOf Tryz.prog 169 = CvT.other := by kernel_rfl
@[go_sem] theorem sz170 : szOf Tryz.prog 170 = some Sz.one := by kernel_rfl
@[go_sem] theorem zo170 : zeroOf Tryz.prog 170 = some (Sz.one, SV.one (SC.pv PV.nilfn)) := by kernel_rfl
@[go_sem] theorem eq170 : eqTOf Tryz.prog 170 = EqT.other := by kernel_rfl
@[go_sem] theorem cv170 : cvTOf Tryz.prog 170 = CvT.other := by kernel_rfl
@[go_sem] theorem sz171 : szOf Tryz.prog 171 = some Sz.one := by kernel_rfl
@[go_sem] theorem zo171 : zeroOf Tryz.prog 171 = some (Sz.one, SV.one (SC.pv PV.nilfn)) := by kernel_rfl
@[go_sem] theorem eq171 : eqTOf Tryz.prog 171 = EqT.other := by kernel_rfl
@[go_sem] theorem cv171 : cvTOf Tryz.prog 171 = CvT.other := by kernel_rfl
@[go_sem] theorem sz172 : szOf Tryz.prog 172 = some Sz.one := by kernel_rfl
@[go_sem] theorem zo172 : zeroOf Tryz.prog 172 = some (Sz.one, SV.one (SC.pv PV.nilfn)) := by kernel_rfl
@[go_sem] theorem eq172 : eqTOf Tryz.prog 172 = EqT.other := by kernel_rfl
@[go_sem] theorem cv172 : cvTOf Tryz.prog 172 = CvT.other := by kernel_rfl
@[go_sem] theorem sz173 : szOf Tryz.prog 173 = some Sz.one := by kernel_rfl
@[go_sem] theorem zo173 : zeroOf Tryz.prog 173 = some (Sz.one, SV.one (SC.pv PV.nilfn)) := by kernel_rfl
@[go_sem] theorem eq173 : eqTOf Tryz.prog 173 = EqT.other := by kernel_rfl
@[go_sem] theorem cv173 : cvTOf Tryz.prog 173 = CvT.other := by kernel_rfl
@[go_sem] theorem sz174 : szOf Tryz.prog 174 = some Sz.one := by kernel_rfl
@[go_sem] theorem zo174 : zeroOf Tryz.prog 174 = some (Sz.one, SV.one (SC.pv PV.nilfn)) := by kernel_rfl
@[go_sem] theorem eq174 : eqTOf Tryz.prog 174 = EqT.other := by kernel_rfl
@[go_sem] theorem cv174 : cvTOf Tryz.prog 174 = CvT.other := by kernel_rfl
@[go_sem] theorem sz175 : szOf Tryz.prog 175 = some Sz.one := by kernel_rfl
@[go_sem] theorem zo175 : zeroOf Tryz.prog 175 = some (Sz.one, SV.one (SC.pv PV.nilp)) := by kernel_rfl
@[go_sem] theorem eq175 : eqTOf Tryz.prog 175 = EqT.ptr := by kernel_rfl
@[go_sem] theorem cv175 : cvTOf Tryz.prog 175 = CvT.other := by kernel_rfl
@[go_sem] theorem sz176 : szOf Tryz.prog 176 = some (Sz.agg 2) := by kernel_rfl
@[go_sem] theorem zo176 : zeroOf Tryz.prog 176 = some (Sz.agg 2, SV.agg [SC.pv PV.nilfn, SC.pv (PV.int IntKind.i64 0)]) := by kernel_rfl
@[go_sem] theorem pl176 : placesOf Tryz.prog 176 = some [(0, Sz.one), (1, Sz.one)] := by kernel_rfl
@[go_sem] theorem eq176 : eqTOf Tryz.prog 176 = EqT.other := by kernel_rfl
@[go_sem] theorem cv176 : cvTOf Tryz.prog 176 = CvT.other := by kernel_rfl
@[go_sem] theorem fo176_0 : fieldOff Tryz.prog 176 0 = some 0 := by kernel_rfl
@[go_sem] theorem fs176_0 : fieldSz Tryz.prog 176 0 = some Sz.one := by kernel_rfl
@[go_sem] theorem fo176_1 : fieldOff Tryz.prog 176 1 = some 1 := by kernel_rfl
@[go_sem] theorem fs176_1 : fieldSz Tryz.prog 176 1 = some Sz.one := by kernel_rfl
@[go_sem] theorem sz177 : szOf Tryz.prog 177 = some (Sz.agg 2) := by kernel_rfl
@[go_sem] theorem zo177 : zeroOf Tryz.prog 177 = some (Sz.agg 2, SV.agg [SC.pv PV.nilfn, SC.pv (PV.int IntKind.i64 0)]) := by kernel_rfl
@[go_sem] theorem pl177 : placesOf Tryz.prog 177 = some [(0, Sz.one), (1, Sz.one)] := by kernel_rfl
@[go_sem] theorem eq177 : eqTOf Tryz.prog 177 = EqT.other := by kernel_rfl
@[go_sem] theorem cv177 : cvTOf Tryz.prog 177 = CvT.other := by kernel_rfl
@[go_sem] theorem fo177_0 : fieldOff Tryz.prog 177 0 = some 0 := by kernel_rfl
@[go_sem] theorem fs177_0 : fieldSz Tryz.prog 177 0 = some Sz.one := by kernel_rfl
@[go_sem] theorem fo177_1 : fieldOff Tryz.prog 177 1 = some 1 := by kernel_rfl
@[go_sem] theorem fs177_1 : fieldSz Tryz.prog 177 1 = some Sz.one := by kernel_rfl
@[go_sem] theorem sz178 : szOf Tryz.prog 178 = some Sz.one := by kernel_rfl
@[go_sem] theorem zo178 : zeroOf Tryz.prog 178 = some (Sz.one, SV.one (SC.pv PV.nilfn)) := by kernel_rfl
@[go_sem] theorem eq178 : eqTOf Tryz.prog 178 = EqT.other := by kernel_rfl
@[go_sem] theorem cv178 : cvTOf Tryz.prog 178 = CvT.other := by kernel_rfl
@[go_sem] theorem sz179 : szOf Tryz.prog 179 = some Sz.one := by kernel_rfl
@[go_sem] theorem zo179 : zeroOf Tryz.prog 179 = some (Sz.one, SV.one (SC.pv PV.nilfn)) := by kernel_rfl
@[go_sem] theorem eq179 : eqTOf Tryz.prog 179 = EqT.other := by kernel_rfl
@[go_sem] theorem cv179 : cvTOf Tryz.prog 179 = CvT.other := by kernel_rfl
@[go_sem] theorem sz180 : szOf Tryz.prog 180 = some Sz.one := by kernel_rfl
@[go_sem] theorem zo180 : zeroOf Tryz.prog 180 = some (Sz.one, SV.one (SC.pv PV.nilfn)) := by kernel_rfl
@[go_sem] theorem eq180 : eqTOf Tryz.prog 180 = EqT.other := by kernel_rfl
@[go_sem] theorem cv180 : cvTOf Tryz.prog 180 = CvT.other := by kernel_rfl
@[go_sem] theorem sz181 : szOf Tryz.prog 181 = some Sz.one := by kernel_rfl
@[go_sem] theorem zo181 : zeroOf Tryz.prog 181 = some (Sz.one, SV.one (SC.pv (PV.int IntKind.u64 0))) := by kernel_rfl
@[go_sem] theorem eq181 : eqTOf Tryz.prog 181 = EqT.other := by kernel_rfl
@[go_sem] theorem cv181 : cvTOf Tryz.prog 181 = CvT.int IntKind.u64 := by kernel_rfl
@[go_sem] theorem sz182 : szOf Tryz.prog 182 = some Sz.one := by kernel_rfl
@[go_sem] theorem zo182 : zeroOf Tryz.prog 182 = some (Sz.one, SV.one (SC.pv PV.nilfn)) := by kernel_rfl
@[go_sem] theorem eq182 : eqTOf Tryz.prog 182 = EqT.other := by kernel_rfl
@[go_sem] theorem cv182 : cvTOf Tryz.prog 182 = CvT.other := by kernel_rfl
@[go_sem] theorem sz183 : szOf Tryz.prog 183 = some Sz.one := by kernel_rfl
@[go_sem] theorem zo183 : zeroOf Tryz.prog 183 = some (Sz.one, SV.one (SC.pv PV.nilfn)) := by kernel_rfl
@[go_sem] theorem eq183 : eqTOf Tryz.prog 183 = EqT.other := by kernel_rfl
@[go_sem] theorem cv183 : cvTOf Tryz.prog 183 = CvT.other := by kernel_rfl
@[go_sem] theorem sz184 : szOf Tryz.prog 184 = some Sz.one := by kernel_rfl
@[go_sem] theorem zo184 : zeroOf Tryz.prog 184 = some (Sz.one, SV.one (SC.pv PV.nilfn)) := by kernel_rfl
@[go_sem] theorem eq184 : eqTOf Tryz.prog 184 = EqT.other := by kernel_rfl
@[go_sem] theorem cv184 : cvTOf Tryz.prog 184 = CvT.other := by kernel_rfl
@[go_sem] theorem sz185 : szOf Tryz.prog 185 = some Sz.one := by kernel_rfl
@[go_sem] theorem zo185 : zeroOf Tryz.prog 185 = some (Sz.one, SV.one (SC.pv PV.nilfn)) := by kernel_rfl
@[go_sem] theorem eq185 : eqTOf Tryz.prog 185 = EqT.other := by kernel_rfl
@[go_sem] theorem cv185 : cvTOf Tryz.prog 185 = CvT.other := by kernel_rfl
@[go_sem] theorem sz186 : szOf Tryz.prog 186 = some Sz.one := by kernel_rfl
@[go_sem] theorem zo186 : zeroOf Tryz.prog 186 = some (Sz.one, SV.one (SC.pv PV.nilfn)) := by kernel_rfl
@[go_sem] theorem eq186 : eqTOf Tryz.prog 186 = EqT.other := by kernel_rfl
@[go_sem] theorem cv186 : cvTOf Tryz.prog 186 = CvT.other := by kernel_rfl
@[go_sem] theorem sz187 : szOf Tryz.prog 187 = some Sz.one := by kernel_rfl
@[go_sem] theorem zo187 : zeroOf Tryz.prog 187 = some (Sz.one, SV.one (SC.pv PV.nilfn)) := by kernel_rfl
@[go_sem] theorem eq187 : eqTOf Tryz.prog 187 = EqT.other := by kernel_rfl
@[go_sem] theorem cv187 : cvTOf Tryz.prog 187 = CvT.other := by kernel_rfl
@[go_sem] theorem sz188 : szOf Tryz.prog 188 = some Sz.one := by kernel_rfl
@[go_sem] theorem zo188 : zeroOf Tryz.prog 188 = some (Sz.one, SV.one (SC.pv PV.nilfn)) := by kernel_rfl
@[go_sem] theorem eq188 : eqTOf Tryz.prog 188 = EqT.other := by kernel_rfl
@[go_sem] theorem cv188 : cvTOf Tryz.prog 188 = CvT.other := by kernel_rfl
@[go_sem] theorem sz189 : szOf Tryz.prog 189 = some Sz.one := by kernel_rfl
@[go_sem] theorem zo189 : zeroOf Tryz.prog 189 = some (Sz.one, SV.one (SC.pv PV.nilfn)) := by kernel_rfl
@[go_sem] theorem eq189 : eqTOf Tryz.prog 189 = EqT.other := by kernel_rfl
@[go_sem] theorem cv189 : cvTOf Tryz.prog 189 = CvT.other := by kernel_rfl
@[go_sem] theorem sz190 : szOf Tryz.prog 190 = some Sz.one := by kernel_rfl
@[go_sem] theorem zo190 : zeroOf Tryz.prog 190 = some (Sz.one, SV.one (SC.pv PV.nilfn)) := by kernel_rfl
@[go_sem] theorem eq190 : eqTOf Tryz.prog 190 = EqT.other := by kernel_rfl
@[go_sem] theorem cv190 : cvTOf Tryz.prog 190 = CvT.other := by kernel_rfl
@[go_sem] theorem sz191 : szOf Tryz.prog 191 = some Sz.one := by kernel_rfl
@[go_sem] theorem zo191 : zeroOf Tryz.prog 191 = some (Sz.one, SV.one (SC.pv PV.nilfn)) := by kernel_rfl
@[go_sem] theorem eq191 : eqTOf Tryz.prog 191 = EqT.other := by kernel_rfl
@[go_sem] theorem cv191 : cvTOf Tryz.prog 191 = CvT.other := by kernel_rfl
@[go_sem] theorem sz192 : szOf Tryz.prog 192 = some Sz.one := by kernel_rfl
@[go_sem] theorem zo192 : zeroOf Tryz.prog 192 = some (Sz.one, SV.one (SC.pv PV.nilfn)) := by kernel_rfl
@[go_sem] theorem eq192 : eqTOf Tryz.prog 192 = EqT.other := by kernel_rfl
@[go_sem] theorem cv192 : cvTOf Tryz.prog 192 = CvT.other := by kernel_rfl
@[go_sem] theorem sz193 : szOf Tryz.prog 193 = some Sz.one := by kernel_rfl
@[go_sem] theorem zo193 : zeroOf Tryz.prog 193 = some (Sz.one, SV.one (SC.pv (PV.int IntKind.i64 0))) := by kernel_rfl
@[go_sem] theorem eq193 : eqTOf Tryz.prog 193 = EqT.other := by kernel_rfl
@[go_sem] theorem cv193 : cvTOf Tryz.prog 193 = CvT.int IntKind.i64 := by kernel_rfl
@[go_sem] theorem sz194 : szOf Tryz.prog 194 = some Sz.one := by kernel_rfl
@[go_sem] theorem eq194 : eqTOf Tryz.prog 194 = EqT.other := by kernel_rfl
@[go_sem] theorem cv194 : cvTOf Tryz.prog 194 = CvT.other := by kernel_rfl
@[go_sem] theorem sz195 : szOf Tryz.prog 195 = some Sz.one := by kernel_rfl
@[go_sem] theorem zo195 : zeroOf Tryz.prog 195 = some (Sz.one, SV.one (SC.pv PV.nilfn)) := by kernel_rfl
@[go_sem] theorem eq195 : eqTOf Tryz.prog 195 = EqT.other := by kernel_rfl
@[go_sem] theorem cv195 : cvTOf Tryz.prog 195 = CvT.other := by kernel_rfl
@[go_sem] theorem sz196 : szOf Tryz.prog 196 = some Sz.one := by kernel_rfl
@[go_sem] theorem zo196 : zeroOf Tryz.prog 196 = some (Sz.one, SV.one (SC.pv PV.nilfn)) := by kernel_rfl
@[go_sem] theorem eq196 : eqTOf Tryz.prog 196 = EqT.other := by kernel_rfl
@[go_sem] theorem cv196 : cvTOf Tryz.prog 196 = CvT.other := by kernel_rfl
@[go_sem] theorem sz197 : szOf Tryz.prog 197 = some Sz.one := by kernel_rfl
@[go_sem] theorem zo197 : zeroOf Tryz.prog 197 = some (Sz.one, SV.one (SC.pv PV.nilfn)) := by kernel_rfl
@[go_sem] theorem eq197 : eqTOf Tryz.prog 197 = EqT.other := by kernel_rfl
@[go_sem] theorem cv197 : cvTOf Tryz.prog 197 = CvT.other := by kernel_rfl
@[go_sem] theorem sz198 : szOf Tryz.prog 198 = some Sz.one := by kernel_rfl
@[go_sem] theorem zo198 : zeroOf Tryz.prog 198 = some (Sz.one, SV.one (SC.pv PV.nilfn)) := by kernel_rfl
@[go_sem] theorem eq198 : eqTOf Tryz.prog 198 = EqT.other := by kernel_rfl
@[go_sem] theorem cv198 : cvTOf Tryz.prog 198 = CvT.other := by kernel_rfl
@[go_sem] theorem sz199 : szOf Tryz.prog 199 = some Sz.one := by kernel_rfl
@[go_sem] theorem zo199 : zeroOf Tryz.prog 199 = some (Sz.one, SV.one (SC.pv PV.nilfn)) := by kernel_rfl
@[go_sem] theorem eq199 : eqTOf Tryz.prog 199 = EqT.other := by kernel_rfl
@[go_sem] theorem cv199 : cvTOf Tryz.prog 199 = CvT.other := by kernel_rfl
@[go_sem] theorem sz200 : szOf Tryz.prog 200 = some Sz.one := by kernel_rfl
@[go_sem] theorem zo200 : zeroOf Tryz.prog 200 = some (Sz.one, SV.one (SC.pv (PV.int IntKind.u32 0))) := by kernel_rfl
@[go_sem] theorem eq200 : eqTOf Tryz.prog 200 = EqT.other := by kernel_rfl
@[go_sem] theorem cv200 : cvTOf Tryz.prog 200 = CvT.int IntKind.u32 := by kernel_rfl
@[go_sem] theorem sz201 : szOf Tryz.prog 201 = some Sz.one := by kernel_rfl
@[go_sem] theorem zo201 : zeroOf Tryz.prog 201 = some (Sz.one, SV.one (SC.pv PV.nilfn)) := by kernel_rfl
@[go_sem] theorem eq201 : eqTOf Tryz.prog 201 = EqT.other := by kernel_rfl
@[go_sem] theorem cv201 : cvTOf Tryz.prog 201 = CvT.other := by kernel_rfl
@[go_sem] theorem sz202 : szOf Tryz.prog 202 = some Sz.one := by kernel_rfl
@[go_sem] theorem zo202 : zeroOf Tryz.prog 202 = some (Sz.one, SV.one (SC.pv (PV.int IntKind.u64 0))) := by kernel_rfl
@[go_sem] theorem eq202 : eqTOf Tryz.prog 202 = EqT.other := by kernel_rfl
@[go_sem] theorem cv202 : cvTOf Tryz.prog 202 = CvT.int IntKind.u64 := by kernel_rfl
@[go_sem] theorem sz203 : szOf Tryz.prog 203 = some Sz.one := by kernel_rfl
@[go_sem] theorem eq203 : eqTOf Tryz.prog 203 = EqT.other := by kernel_rfl
@[go_sem] theorem cv203 : cvTOf Tryz.prog 203 = CvT.other := by kernel_rfl
@[go_sem] theorem sz204 : szOf Tryz.prog 204 = some Sz.one := by kernel_rfl
@[go_sem] theorem zo204 : zeroOf Tryz.prog 204 = some (Sz.one, SV.one (SC.pv PV.nilfn)) := by kernel_rfl
@[go_sem] theorem eq204 : eqTOf Tryz.prog 204 = EqT.other := by kernel_rfl
@[go_sem] theorem cv204 : cvTOf Tryz.prog 204 = CvT.other := by kernel_rfl
@[go_sem] theorem sz205 : szOf Tryz.prog 205 = some Sz.one := by kernel_rfl
@[go_sem] theorem zo205 : zeroOf Tryz.prog 205 = some (Sz.one, SV.one (SC.pv PV.nilfn)) := by kernel_rfl
@[go_sem] theorem eq205 : eqTOf Tryz.prog 205 = EqT.other := by kernel_rfl
@[go_sem] theorem cv205 : cvTOf Tryz.prog 205 = CvT.other := by kernel_rfl
@[go_sem] theorem sz206 : szOf Tryz.prog 206 = some Sz.one := by kernel_rfl
@[go_sem] theorem zo206 : zeroOf Tryz.prog 206 = some (Sz.one, SV.one (SC.pv PV.nilfn)) := by kernel_rfl
@[go_sem] theorem eq206 : eqTOf Tryz.prog 206 = EqT.other := by kernel_rfl
@[go_sem] theorem cv206 : cvTOf Tryz.prog 206 = CvT.other := by kernel_rfl
@[go_sem] theorem sz207 : szOf Tryz.prog 207 = some Sz.one := by kernel_rfl
@[go_sem] theorem zo207 : zeroOf Tryz.prog 207 = some (Sz.one, SV.one (SC.pv PV.nilfn)) := by kernel_rfl
@[go_sem] theorem eq207 : eqTOf Tryz.prog 207 = EqT.other := by kernel_rfl
@[go_sem] theorem cv207 : cvTOf Tryz.prog 207 = CvT.other := by kernel_rfl
@[go_sem] theorem sz208 : szOf Tryz.prog 208 = some Sz.one := by kernel_rfl
@[go_sem] theorem zo208 : zeroOf Tryz.prog 208 = some (Sz.one, SV.one (SC.pv PV.nilfn)) := by kernel_rfl
@[go_sem] theorem eq208 : eqTOf Tryz.prog 208 = EqT.other := by kernel_rfl
@[go_sem] theorem cv208 : cvTOf Tryz.prog 208 = CvT.other := by kernel_rfl
@[go_sem] theorem sz209 : szOf Tryz.prog 209 = some Sz.one := by kernel_rfl
@[go_sem] theorem zo209 : zeroOf Tryz.prog 209 = some (Sz.one, SV.one (SC.pv PV.nilfn)) := by kernel_rfl
@[go_sem] theorem eq209 : eqTOf Tryz.prog 209 = EqT.other := by kernel_rfl
@[go_sem] theorem cv209 : cvTOf Tryz.prog 209 = CvT.other := by kernel_rfl
@[go_sem] theorem sz210 : szOf Tryz.prog 210 = some Sz.one := by kernel_rfl
@[go_sem] theorem zo210 : zeroOf Tryz.prog 210 = some (Sz.one, SV.one (SC.pv PV.nilfn)) := by kernel_rfl
@[go_sem] theorem eq210 : eqTOf Tryz.prog 210 = EqT.other := by kernel_rfl
@[go_sem] theorem cv210 : cvTOf Tryz.prog 210 = CvT.other := by kernel_rfl
@[go_sem] theorem sz211 : szOf Tryz.prog 211 = some Sz.one := by kernel_rfl
@[go_sem] theorem el211 : elemOf Tryz.prog 211 = some 5 := by kernel_rfl
@[go_sem] theorem es211 : elemSz Tryz.prog 211 = some (Sz.one, 1) := by kernel_rfl
@[go_sem] theorem zo211 : zeroOf Tryz.prog 211 = some (Sz.one, SV.one SC.nilS) := by kernel_rfl
@[go_sem] theorem eq211 : eqTOf Tryz.prog 211 = EqT.other := by kernel_rfl
@[go_sem] theorem cv211 : cvTOf Tryz.prog 211 = CvT.bytes := by kernel_rfl
@[go_sem] theorem sz212 : szOf Tryz.prog 212 = some Sz.one := by kernel_rfl
@[go_sem] theorem zo212 : zeroOf Tryz.prog 212 = some (Sz.one, SV.one (SC.pv (PV.int IntKind.i64 0))) := by kernel_rfl
@[go_sem] theorem eq212 : eqTOf Tryz.prog 212 = EqT.other := by kernel_rfl
@[go_sem] theorem cv212 : cvTOf Tryz.prog 212 = CvT.int IntKind.i64 := by kernel_rfl
@[go_sem] theorem sz213 : szOf Tryz.prog 213 = some Sz.one := by kernel_rfl
@[go_sem] theorem zo213 : zeroOf Tryz.prog 213 = some (Sz.one, SV.one (SC.pv PV.nilfn)) := by kernel_rfl
@[go_sem] theorem eq213 : eqTOf Tryz.prog 213 = EqT.other := by kernel_rfl
@[go_sem] theorem cv213 : cvTOf Tryz.prog 213 = CvT.other := by kernel_rfl
@[go_sem] theorem sz214 : szOf Tryz.prog 214 = some Sz.one := by kernel_rfl
@[go_sem] theorem zo214 : zeroOf Tryz.prog 214 = some (Sz.one, SV.one (SC.pv PV.nilfn)) := by kernel_rfl
@[go_sem] theorem eq214 : eqTOf Tryz.prog 214 = EqT.other := by kernel_rfl
@[go_sem] theorem cv214 : cvTOf Tryz.prog 214 = CvT.other := by kernel_rfl
@[go_sem] theorem sz215 : szOf Tryz.prog 215 = some Sz.one := by kernel_rfl
@[go_sem] theorem zo215 : zeroOf Tryz.prog 215 = some (Sz.one, SV.one (SC.pv PV.nilfn)) := by kernel_rfl
@[go_sem] theorem eq215 : eqTOf Tryz.prog 215 = EqT.other := by kernel_rfl
@[go_sem] theorem cv215 : cvTOf Tryz.prog 215 = CvT.other := by kernel_rfl
@[go_sem] theorem sz216 : szOf Tryz.prog 216 = some Sz.one := by kernel_rfl
@[go_sem] theorem zo216 : zeroOf Tryz.prog 216 = some (Sz.one, SV.one (SC.pv PV.nilfn)) := by kernel_rfl
@[go_sem] theorem eq216 : eqTOf Tryz.prog 216 = EqT.other := by kernel_rfl
@[go_sem] theorem cv216 : cvTOf Tryz.prog 216 = CvT.other := by kernel_rfl
@[go_sem] theorem sz217 : szOf Tryz.prog 217 = some Sz.one := by kernel_rfl
@[go_sem] theorem zo217 : zeroOf Tryz.prog 217 = some (Sz.one, SV.one (SC.pv PV.nilfn)) := by kernel_rfl
@[go_sem] theorem eq217 : eqTOf Tryz.prog 217 = EqT.other := by kernel_rfl
@[go_sem] theorem cv217 : cvTOf Tryz.prog 217 = CvT.other := by kernel_rfl
@[go_sem] theorem sz218 : szOf Tryz.prog 218 = some Sz.one := by kernel_rfl
@[go_sem] theorem zo218 : zeroOf Tryz.prog 218 = some (Sz.one, SV.one (SC.pv PV.nilfn)) := by kernel_rfl
@[go_sem] theorem eq218 : eqTOf Tryz.prog 218 = EqT.other := by kernel_rfl
@[go_sem] theorem cv218 : cvTOf Tryz.prog 218 = CvT.other := by kernel_rfl
@[go_sem] theorem sz219 : szOf Tryz.prog 219 = some Sz.one := by kernel_rfl
@[go_sem] theorem zo219 : zeroOf Tryz.prog 219 = some (Sz.one, SV.one (SC.pv PV.nilfn)) := by kernel_rfl
@[go_sem] theorem eq219 : eqTOf Tryz.prog 219 = EqT.other := by kernel_rfl
@[go_sem] theorem cv219 : cvTOf Tryz.prog 219 = CvT.other := by kernel_rfl
@[go_sem] theorem sz220 : szOf Tryz.prog 220 = some Sz.one := by kernel_rfl
@[go_sem] theorem zo220 : zeroOf Tryz.prog 220 = some (Sz.one, SV.one (SC.pv (PV.int IntKind.u64 0))) := by kernel_rfl
@[go_sem] theorem eq220 : eqTOf Tryz.prog 220 = EqT.other := by kernel_rfl
@[go_sem] theorem cv220 : cvTOf Tryz.prog 220 = CvT.int IntKind.u64 := by kernel_rfl
@[go_sem] theorem sz221 : szOf Tryz.prog 221 = some Sz.one := by kernel_rfl
@[go_sem] theorem zo221 : zeroOf Tryz.prog 221 = some (Sz.one, SV.one (SC.pv PV.nilfn)) := by kernel_rfl
@[go_sem] theorem eq221 : eqTOf Tryz.prog 221 = EqT.other := by kernel_rfl
@[go_sem] theorem cv221 : cvTOf Tryz.prog 221 = CvT.other := by kernel_rfl
@[go_sem] theorem sz222 : szOf Tryz.prog 222 = some Sz.one := by kernel_rfl
@[go_sem] theorem zo222 : zeroOf Tryz.prog 222 = some (Sz.one, SV.one (SC.pv PV.nilfn)) := by kernel_rfl
@[go_sem] theorem eq222 : eqTOf Tryz.prog 222 = EqT.other := by kernel_rfl
@[go_sem] theorem cv222 : cvTOf Tryz.prog 222 = CvT.other := by kernel_rfl
@[go_sem] theorem sz223 : szOf Tryz.prog 223 = some Sz.one := by kernel_rfl
@[go_sem] theorem zo223 : zeroOf Tryz.prog 223 = some (Sz.one, SV.one (SC.pv PV.nilfn)) := by kernel_rfl
@[go_sem] theorem eq223 : eqTOf Tryz.prog 223 = EqT.other := by kernel_rfl
@[go_sem] theorem cv223 : cvTOf Tryz.prog 223 = CvT.other := by kernel_rfl
@[go_sem] theorem sz224 : szOf Tryz.prog 224 = some Sz.one := by kernel_rfl
@[go_sem] theorem zo224 : zeroOf Tryz.prog 224 = some (Sz.one, SV.one (SC.pv PV.nilp)) := by kernel_rfl
@[go_sem] theorem eq224 : eqTOf Tryz.prog 224 = EqT.ptr := by kernel_rfl
@[go_sem] theorem cv224 : cvTOf Tryz.prog 224 = CvT.other := by kernel_rfl
@[go_sem] theorem sz225 : szOf Tryz.prog 225 = some Sz.one := by kernel_rfl
@[go_sem] theorem zo225 : zeroOf Tryz.prog 225 = some (Sz.one, SV.one (SC.pv PV.nilfn)) := by kernel_rfl
@[go_sem] theorem eq225 : eqTOf Tryz.prog 225 = EqT.other := by kernel_rfl
@[go_sem] theorem cv225 : cvTOf Tryz.prog 225 = CvT.other := by kernel_rfl
@[go_sem] theorem sz226 : szOf Tryz.prog 226 = some Sz.one := by kernel_rfl
@[go_sem] theorem zo226 : zeroOf Tryz.prog 226 = some (Sz.one, SV.one (SC.pv PV.nili)) := by kernel_rfl
@[go_sem] theorem eq226 : eqTOf Tryz.prog 226 = EqT.iface := by kernel_rfl
@[go_sem] theorem cv226 : cvTOf Tryz.prog 226 = CvT.other := by kernel_rfl
@[go_sem] theorem sz227 : szOf Tryz.prog 227 = some Sz.one := by kernel_rfl
@[go_sem] theorem zo227 : zeroOf Tryz.prog 227 = some (Sz.one, SV.one (SC.pv PV.nili)) := by kernel_rfl
@[go_sem] theorem eq227 : eqTOf Tryz.prog 227 = EqT.iface := by kernel_rfl
@[go_sem] theorem cv227 : cvTOf Tryz.prog 227 = CvT.other := by kernel_rfl
@[go_sem] theorem sz228 : szOf Tryz.prog 228 = some Sz.one := by kernel_rfl
@[go_sem] theorem eq228 : eqTOf Tryz.prog 228 = EqT.other := by kernel_rfl
@[go_sem] theorem cv228 : cvTOf Tryz.prog 228 = CvT.other := by kernel_rfl
@[go_sem] theorem sz229 : szOf Tryz.prog 229 = some Sz.one := by kernel_rfl
@[go_sem] theorem zo229 : zeroOf Tryz.prog 229 = some (Sz.one, SV.one (SC.pv PV.nilfn)) := by kernel_rfl
@[go_sem] theorem eq229 : eqTOf Tryz.prog 229 = EqT.other := by kernel_rfl
@[go_sem] theorem cv229 : cvTOf Tryz.prog 229 = CvT.other := by kernel_rfl
@[go_sem] theorem sz230 : szOf Tryz.prog 230 = some Sz.one := by kernel_rfl
@[go_sem] theorem zo230 : zeroOf Tryz.prog 230 = some (Sz.one, SV.one (SC.pv PV.nilfn)) := by kernel_rfl
@[go_sem] theorem eq230 : eqTOf Tryz.prog 230 = EqT.other := by kernel_rfl
@[go_sem] theorem cv230 : cvTOf Tryz.prog 230 = CvT.other := by kernel_rfl
@[go_sem] theorem sz231 : szOf Tryz.prog 231 = some Sz.one := by kernel_rfl
@[go_sem] theorem zo231 : zeroOf Tryz.prog 231 = some (Sz.one, SV.one (SC.pv PV.nilfn)) := by kernel_rfl
@[go_sem] theorem eq231 : eqTOf Tryz.prog 231 = EqT.other := by kernel_rfl
@[go_sem] theorem cv231 : cvTOf Tryz.prog 231 = CvT.other := by kernel_rfl
@[go_sem] theorem sz232 : szOf Tryz.prog 232 = some Sz.one := by kernel_rfl
@[go_sem] theorem zo232 : zeroOf Tryz.prog 232 = some (Sz.one, SV.one (SC.pv PV.nilfn)) := by kernel_rfl
@[go_sem] theorem eq232 : eqTOf Tryz.prog 232 = EqT.other := by kernel_rfl
@[go_sem] theorem cv232 : cvTOf Tryz.prog 232 = CvT.other := by kernel_rfl
@[go_sem] theorem sz233 : szOf Tryz.prog 233 = some Sz.one := by kernel_rfl
@[go_sem] theorem zo233 : zeroOf Tryz.prog 233 = some (Sz.one, SV.one (SC.pv PV.nilfn)) := by kernel_rfl
@[go_sem] theorem eq233 : eqTOf Tryz.prog 233 = EqT.other := by kernel_rfl
@[go_sem] theorem cv233 : cvTOf Tryz.prog 233 = CvT.other := by kernel_rfl
@[go_sem] theorem sz234 : szOf Tryz.prog 234 = some Sz.one := by kernel_rfl
@[go_sem] theorem zo234 : zeroOf Tryz.prog 234 = some (Sz.one, SV.one (SC.pv PV.nilfn)) := by kernel_rfl
@[go_sem] theorem eq234 : eqTOf Tryz.prog 234 = EqT.other := by kernel_rfl
@[go_sem] theorem cv234 : cvTOf Tryz.prog 234 = CvT.other := by kernel_rfl
@[go_sem] theorem sz235 : szOf Tryz.prog 235 = some Sz.one := by kernel_rfl
@[go_sem] theorem zo235 : zeroOf Tryz.prog 235 = some (Sz.one, SV.one (SC.pv PV.nilp)) := by kernel_rfl
@[go_sem] theorem eq235 : eqTOf Tryz.prog 235 = EqT.ptr := by kernel_rfl
@[go_sem] theorem cv235 : cvTOf Tryz.prog 235 = CvT.other := by kernel_rfl
@[go_sem] theorem sz236 : szOf Tryz.prog 236 = some Sz.one := by kernel_rfl
@[go_sem] theorem eq236 : eqTOf Tryz.prog 236 = EqT.other := by kernel_rfl
@[go_sem] theorem cv236 : cvTOf Tryz.prog 236 = CvT.other := by kernel_rfl
@[go_sem] theorem sz237 : szOf Tryz.prog 237 = some Sz.one := by kernel_rfl
@[go_sem] theorem zo237 : zeroOf Tryz.prog 237 = some (Sz.one, SV.one (SC.pv PV.nilfn)) := by kernel_rfl
@[go_sem] theorem eq237 : eqTOf Tryz.prog 237 = EqT.other := by kernel_rfl
@[go_sem] theorem cv237 : cvTOf Tryz.prog 237 = CvT.other := by kernel_rfl
@[go_sem] theorem sz238 : szOf Tryz.prog 238 = some Sz.one := by kernel_rfl
@[go_sem] theorem zo238 : zeroOf Tryz.prog 238 = some (Sz.one, SV.one (SC.pv PV.nilfn)) := by kernel_rfl
@[go_sem] theorem eq238 : eqTOf Tryz.prog 238 = EqT.other := by kernel_rfl
@[go_sem] theorem cv238 : cvTOf Tryz.prog 238 = CvT.other := by kernel_rfl
@[go_sem] theorem sz239 : szOf Tryz.prog 239 = some Sz.one := by kernel_rfl
@[go_sem] theorem zo239 : zeroOf Tryz.prog 239 = some (Sz.one, SV.one (SC.pv PV.nilfn)) := by kernel_rfl
@[go_sem] theorem eq239 : eqTOf Tryz.prog 239 = EqT.other := by kernel_rfl
@[go_sem] theorem cv239 : cvTOf Tryz.prog 239 = CvT.other := by kernel_rfl
@[go_sem] theorem sz240 : szOf Tryz.prog 240 = some Sz.one := by kernel_rfl
@[go_sem] theorem zo240 : zeroOf Tryz.prog 240 = some (Sz.one, SV.one (SC.pv PV.nilfn)) := by kernel_rfl
@[go_sem] theorem eq240 : eqTOf Tryz.prog 240 = EqT.other := by kernel_rfl
@[go_sem] theorem cv240 : cvTOf Tryz.prog 240 = CvT.other := by kernel_rfl
@[go_sem] theorem sz241 : szOf Tryz.prog 241 = some Sz.one := by kernel_rfl
@[go_sem] theorem zo241 : zeroOf Tryz.prog 241 = some (Sz.one, SV.one (SC.pv PV.nilfn)) := by kernel_rfl
@[go_sem] theorem eq241 : eqTOf Tryz.prog 241 = EqT.other := by kernel_rfl
@[go_sem] theorem cv241 : cvTOf Tryz.prog 241 = CvT.other := by kernel_rfl
@[go_sem] theorem sz242 : szOf Tryz.prog 242 = some Sz.one := by kernel_rfl
@[go_sem] theorem zo242 : zeroOf Tryz.prog 242 = some (Sz.one, SV.one (SC.pv (PV.int IntKind.i64 0))) := by kernel_rfl
@[go_sem] theorem eq242 : eqTOf Tryz.prog 242 = EqT.other := by kernel_rfl
@[go_sem] theorem cv242 : cvTOf Tryz.prog 242 = CvT.int IntKind.i64 := by kernel_rfl
@[go_sem] theorem sz243 : szOf Tryz.prog 243 = some Sz.one := by kernel_rfl
@[go_sem] theorem eq243 : eqTOf Tryz.prog 243 = EqT.other := by kernel_rfl
@[go_sem] theorem cv243 : cvTOf Tryz.prog 243 = CvT.other := by kernel_rfl
@[go_sem] theorem sz244 : szOf Tryz.prog 244 = some Sz.one := by kernel_rfl
@[go_sem] theorem zo244 : zeroOf Tryz.prog 244 = some (Sz.one, SV.one (SC.pv PV.nilfn)) := by kernel_rfl
@[go_sem] theorem eq244 : eqTOf Tryz.prog 244 = EqT.other := by kernel_rfl
@[go_sem] theorem cv244 : cvTOf Tryz.prog 244 = CvT.other := by kernel_rfl
@[go_sem] theorem sz245 : szOf Tryz.prog 245 = some Sz.one := by kernel_rfl
@[go_sem] theorem zo245 : zeroOf Tryz.prog 245 = some (Sz.one, SV.one (SC.pv PV.nilp)) := by kernel_rfl
@[go_sem] theorem eq245 : eqTOf Tryz.prog 245 = EqT.ptr := by kernel_rfl
@[go_sem] theorem cv245 : cvTOf Tryz.prog 245 = CvT.other := by kernel_rfl
@[go_sem] theorem sz246 : szOf Tryz.prog 246 = some Sz.one := by kernel_rfl
@[go_sem] theorem zo246 : zeroOf Tryz.prog 246 = some (Sz.one, SV.one (SC.pv PV.nilfn)) := by kernel_rfl
@[go_sem] theorem eq246 : eqTOf Tryz.prog 246 = EqT.other := by kernel_rfl
@[go_sem] theorem cv246 : cvTOf Tryz.prog 246 = CvT.other := by kernel_rfl
@[go_sem] theorem sz247 : szOf Tryz.prog 247 = some Sz.one := by kernel_rfl
@[go_sem] theorem zo247 : zeroOf Tryz.prog 247 = some (Sz.one, SV.one (SC.pv PV.nilfn)) := by kernel_rfl
@[go_sem] theorem eq247 : eqTOf Tryz.prog 247 = EqT.other := by kernel_rfl
@[go_sem] theorem cv247 : cvTOf Tryz.prog 247 = CvT.other := by kernel_rfl
@[go_sem] theorem sz248 : szOf Tryz.prog 248 = some Sz.one := by kernel_rfl
@[go_sem] theorem eq248 : eqTOf Tryz.prog 248 = EqT.other := by kernel_rfl
@[go_sem] theorem cv248 : cvTOf Tryz.prog 248 = CvT.other := by kernel_rfl
@[go_sem] theorem sz249 : szOf Tryz.prog 249 = some Sz.one := by kernel_rfl
@[go_sem] theorem zo249 : zeroOf Tryz.prog 249 = some (Sz.one, SV.one (SC.pv PV.nilfn)) := by kernel_rfl
@[go_sem] theorem eq249 : eqTOf Tryz.prog 249 = EqT.other := by kernel_rfl
@[go_sem] theorem cv249 : cvTOf Tryz.prog 249 = CvT.other := by kernel_rfl
@[go_sem] theorem sz250 : szOf Tryz.prog 250 = some Sz.one := by kernel_rfl
@[go_sem] theorem eq250 : eqTOf Tryz.prog 250 = EqT.other := by kernel_rfl
@[go_sem] theorem cv250 : cvTOf Tryz.prog 250 = CvT.other := by kernel_rfl
@[go_sem] theorem sz251 : szOf Tryz.prog 251 = some Sz.one := by kernel_rfl
@[go_sem] theorem zo251 : zeroOf Tryz.prog 251 = some (Sz.one, SV.one (SC.pv PV.nilfn)) := by kernel_rfl
@[go_sem] theorem eq251 : eqTOf Tryz.prog 251 = EqT.other := by kernel_rfl
@[go_sem] theorem cv251 : cvTOf Tryz.prog 251 = CvT.other := by kernel_rfl
@[go_sem] theorem sz252 : szOf Tryz.prog 252 = some Sz.one := by kernel_rfl
@[go_sem] theorem zo252 : zeroOf Tryz.prog 252 = some (Sz.one, SV.one (SC.pv PV.nilfn)) := by kernel_rfl
@[go_sem] theorem eq252 : eqTOf Tryz.prog 252 = EqT.other := by kernel_rfl
@[go_sem] theorem cv252 : cvTOf Tryz.prog 252 = CvT.other := by kernel_rfl
@[go_sem] theorem sz253 : szOf Tryz.prog 253 = some (Sz.agg 3) := by kernel_rfl
@[go_sem] theorem zo253 : zeroOf Tryz.prog 253 = some (Sz.agg 3, SV.agg [SC.pv (PV.str ByteArray.empty), SC.pv (PV.str ByteArray.empty), SC.pv PV.nili]) := by kernel_rfl
@[go_sem] theorem pl253 : placesOf Tryz.prog 253 = some [(0, Sz.one), (1, Sz.one), (2, Sz.one)] := by kernel_rfl
@[go_sem] theorem eq253 : eqTOf Tryz.prog 253 = EqT.other := by kernel_rfl
@[go_sem] theorem cv253 : cvTOf Tryz.prog 253 = CvT.other := by kernel_rfl
@[go_sem] theorem fo253_0 : fieldOff Tryz.prog 253 0 = some 0 := by kernel_rfl
@[go_sem] theorem fs253_0 : fieldSz Tryz.prog 253 0 = some Sz.one := by kernel_rfl
@[go_sem] theorem fo253_1 : fieldOff Tryz.prog 253 1 = some 1 := by kernel_rfl
@[go_sem] theorem fs253_1 : fieldSz Tryz.prog 253 1 = some Sz.one := by kernel_rfl
@[go_sem] theorem fo253_2 : fieldOff Tryz.prog 253 2 = some 2 := by kernel_rfl
@[go_sem] theorem fs253_2 : fieldSz Tryz.prog 253 2 = some Sz.one := by kernel_rfl
@[go_sem] theorem sz254 : szOf Tryz.prog 254 = some (Sz.agg 3) := by kernel_rfl
@[go_sem] theorem zo254 : zeroOf Tryz.prog 254 = some (Sz.agg 3, SV.agg [SC.pv (PV.str ByteArray.empty), SC.pv (PV.str ByteArray.empty), SC.pv PV.nili]) := by kernel_rfl
@[go_sem] theorem pl254 : placesOf Tryz.prog 254 = some [(0, Sz.one), (1, Sz.one), (2, Sz.one)] := by kernel_rfl
@[go_sem] theorem eq254 : eqTOf Tryz.prog 254 = EqT.other := by kernel_rfl
@[go_sem] theorem cv254 : cvTOf Tryz.prog 254 = CvT.other := by kernel_rfl
@[go_sem] theorem fo254_0 : fieldOff Tryz.prog 254 0 = some 0 := by kernel_rfl
@[go_sem] theorem fs254_0 : fieldSz Tryz.prog 254 0 = some Sz.one := by kernel_rfl
@[go_sem] theorem fo254_1 : fieldOff Tryz.prog 254 1 = some 1 := by kernel_rfl
@[go_sem] theorem fs254_1 : fieldSz Tryz.prog 254 1 = some Sz.one := by kernel_rfl
@[go_sem] theorem fo254_2 : fieldOff Tryz.prog 254 2 = some 2 := by kernel_rfl
@[go_sem] theorem fs254_2 : fieldSz Tryz.prog 254 2 = some Sz.one := by kernel_rfl
@[go_sem] theorem sz255 : szOf Tryz.prog 255 = some Sz.one := by kernel_rfl
@[go_sem] theorem zo255 : zeroOf Tryz.prog 255 = some (Sz.one, SV.one (SC.pv PV.nilfn)) := by kernel_rfl
@[go_sem] theorem eq255 : eqTOf Tryz.prog 255 = EqT.other := by kernel_rfl
@[go_sem] theorem cv255 : cvTOf Tryz.prog 255 = CvT.other := by kernel_rfl
@[go_sem] theorem sz256 : szOf Tryz.prog 256 = some Sz.one := by kernel_rfl
@[go_sem] theorem zo256 : zeroOf Tryz.prog 256 = some (Sz.one, SV.one (SC.pv PV.nilfn)) := by kernel_rfl
@[go_sem] theorem eq256 : eqTOf Tryz.prog 256 = EqT.other := by kernel_rfl
@[go_sem] theorem cv256 : cvTOf Tryz.prog 256 = CvT.other := by kernel_rfl
@[go_sem] theorem sz257 : szOf Tryz.prog 257 = some Sz.one := by kernel_rfl
@[go_sem] theorem zo257 : zeroOf Tryz.prog 257 = some (Sz.one, SV.one (SC.pv PV.nilfn)) := by kernel_rfl
@[go_sem] theorem eq257 : eqTOf Tryz.prog 257 = EqT.other := by kernel_rfl
@[go_sem] theorem cv257 : cvTOf Tryz.prog 257 = CvT.other := by kernel_rfl
@[go_sem] theorem sz258 : szOf Tryz.prog 258 = some Sz.one := by kernel_rfl
@[go_sem] theorem zo258 : zeroOf Tryz.prog 258 = some (Sz.one, SV.one (SC.pv PV.nilp)) := by kernel_rfl
@[go_sem] theorem eq258 : eqTOf Tryz.prog 258 = EqT.ptr := by kernel_rfl
@[go_sem] theorem cv258 : cvTOf Tryz.prog 258 = CvT.other := by kernel_rfl
@[go_sem] theorem sz259 : szOf Tryz.prog 259 = some Sz.one := by kernel_rfl
@[go_sem] theorem zo259 : zeroOf Tryz.prog 259 = some (Sz.one, SV.one (SC.pv PV.nilp)) := by kernel_rfl
@[go_sem] theorem eq259 : eqTOf Tryz.prog 259 = EqT.ptr := by kernel_rfl
@[go_sem] theorem cv259 : cvTOf Tryz.prog 259 = CvT.other := by kernel_rfl
@[go_sem] theorem sz260 : szOf Tryz.prog 260 = some (Sz.agg 1) := by kernel_rfl
@[go_sem] theorem zo260 : zeroOf Tryz.prog 260 = some (Sz.agg 1, SV.agg [SC.pv (PV.str ByteArray.empty)]) := by kernel_rfl
@[go_sem] theorem pl260 : placesOf Tryz.prog 260 = some [(0, Sz.one)] := by kernel_rfl
@[go_sem] theorem eq260 : eqTOf Tryz.prog 260 = EqT.other := by kernel_rfl
@[go_sem] theorem cv260 : cvTOf Tryz.prog 260 = CvT.other := by kernel_rfl
@[go_sem] theorem fo260_0 : fieldOff Tryz.prog 260 0 = some 0 := by kernel_rfl
@[go_sem] theorem fs260_0 : fieldSz Tryz.prog 260 0 = some Sz.one := by kernel_rfl
@[go_sem] theorem sz261 : szOf Tryz.prog 261 = some (Sz.agg 1) := by kernel_rfl
@[go_sem] theorem zo261 : zeroOf Tryz.prog 261 = some (Sz.agg 1, SV.agg [SC.pv (PV.str ByteArray.empty)]) := by kernel_rfl
@[go_sem] theorem pl261 : placesOf Tryz.prog 261 = some [(0, Sz.one)] := by kernel_rfl
@[go_sem] theorem eq261 : eqTOf Tryz.prog 261 = EqT.other := by kernel_rfl
@[go_sem] theorem cv261 : cvTOf Tryz.prog 261 = CvT.other := by kernel_rfl
@[go_sem] theorem fo261_0 : fieldOff Tryz.prog 261 0 = some 0 := by kernel_rfl
@[go_sem] theorem fs261_0 : fieldSz Tryz.prog 261 0 = some Sz.one := by kernel_rfl
@[go_sem] theorem sz262 : szOf Tryz.prog 262 = some Sz.one := by kernel_rfl
@[go_sem] theorem zo262 : zeroOf Tryz.prog 262 = some (Sz.one, SV.one (SC.pv PV.nilfn)) := by kernel_rfl
@[go_sem] theorem eq262 : eqTOf Tryz.prog 262 = EqT.other := by kernel_rfl
@[go_sem] theorem cv262 : cvTOf Tryz.prog 262 = CvT.other := by kernel_rfl
@[go_sem] theorem eq263 : eqTOf Tryz.prog 263 = EqT.other := by kernel_rfl
@[go_sem] theorem cv263 : cvTOf Tryz.prog 263 = CvT.other := by kernel_rfl
@[go_sem] theorem sz264 : szOf Tryz.prog 264 = some Sz.one := by kernel_rfl
@[go_sem] theorem zo264 : zeroOf Tryz.prog 264 = some (Sz.one, SV.one (SC.pv PV.nilfn)) := by kernel_rfl
@[go_sem] theorem eq264 : eqTOf Tryz.prog 264 = EqT.other := by kernel_rfl
@[go_sem] theorem cv264 : cvTOf Tryz.prog 264 = CvT.other := by kernel_rfl
@[go_sem] theorem sz265 : szOf Tryz.prog 265 = some Sz.one := by kernel_rfl
@[go_sem] theorem eq265 : eqTOf Tryz.prog 265 = EqT.other := by kernel_rfl
@[go_sem] theorem cv265 : cvTOf Tryz.prog 265 = CvT.other := by kernel_rfl
@[go_sem] theorem sz266 : szOf Tryz.prog 266 = some Sz.one := by kernel_rfl
@[go_sem] theorem zo266 : zeroOf Tryz.prog 266 = some (Sz.one, SV.one (SC.pv PV.nilfn)) := by kernel_rfl
@[go_sem] theorem eq266 : eqTOf Tryz.prog 266 = EqT.other := by kernel_rfl
@[go_sem] theorem cv266 : cvTOf Tryz.prog 266 = CvT.other := by kernel_rfl
@[go_sem] theorem sz267 : szOf Tryz.prog 267 = some Sz.one := by kernel_rfl
@[go_sem] theorem zo267 : zeroOf Tryz.prog 267 = some (Sz.one, SV.one (SC.pv PV.nilfn)) := by kernel_rfl
@[go_sem] theorem eq267 : eqTOf Tryz.prog 267 = EqT.other := by kernel_rfl
@[go_sem] theorem cv267 : cvTOf Tryz.prog 267 = CvT.other := by kernel_rfl
@[go_sem] theorem eq268 : eqTOf Tryz.prog 268 = EqT.other := by kernel_rfl
@[go_sem] theorem cv268 : cvTOf Tryz.prog 268 = CvT.other := by kernel_rfl
@[go_sem] theorem eq269 : eqTOf Tryz.prog 269 = EqT.other := by kernel_rfl
@[go_sem] theorem cv269 : cvTOf Tryz.prog 269 = CvT.other := by kernel_rfl
@[go_sem] theorem eq270 : eqTOf Tryz.prog 270 = EqT.other := by kernel_rfl
@[go_sem] theorem cv270 : cvTOf Tryz.prog 270 = CvT.other := by kernel_rfl
@[go_sem] theorem eq271 : eqTOf Tryz.prog 271 = EqT.other := by kernel_rfl
@[go_sem] theorem cv271 : cvTOf Tryz.prog 271 = CvT.other := by kernel_rfl
@[go_sem] theorem sz272 : szOf Tryz.prog 272 = some Sz.one := by kernel_rfl
@[go_sem] theorem zo272 : zeroOf Tryz.prog 272 = some (Sz.one, SV.one (SC.pv PV.nilfn)) := by kernel_rfl
@[go_sem] theorem eq272 : eqTOf Tryz.prog 272 = EqT.other := by kernel_rfl
@[go_sem] theorem cv272 : cvTOf Tryz.prog 272 = CvT.other := by kernel_rfl
@[go_sem] theorem sz273 : szOf Tryz.prog 273 = some (Sz.agg 4) := by kernel_rfl
@[go_sem] theorem zo273 : zeroOf Tryz.prog 273 = some (Sz.agg 4, SV.agg [SC.pv PV.nilp, SC.pv PV.nilp, SC.pv PV.nilp, SC.pv (PV.str ByteArray.empty)]) := by kernel_rfl
@[go_sem] theorem pl273 : placesOf Tryz.prog 273 = some [(0, Sz.one), (1, Sz.one), (2, Sz.one), (3, Sz.one)] := by kernel_rfl
@[go_sem] theorem eq273 : eqTOf Tryz.prog 273 = EqT.other := by kernel_rfl
@[go_sem] theorem cv273 : cvTOf Tryz.prog 273 = CvT.other := by kernel_rfl
@[go_sem] theorem fo273_0 : fieldOff Tryz.prog 273 0 = some 0 := by kernel_rfl
@[go_sem] theorem fs273_0 : fieldSz Tryz.prog 273 0 = some Sz.one := by kernel_rfl
@[go_sem] theorem fo273_1 : fieldOff Tryz.prog 273 1 = some 1 := by kernel_rfl
@[go_sem] theorem fs273_1 : fieldSz Tryz.prog 273 1 = some Sz.one := by kernel_rfl
@[go_sem] theorem fo273_2 : fieldOff Tryz.prog 273 2 = some 2 := by kernel_rfl
@[go_sem] theorem fs273_2 : fieldSz Tryz.prog 273 2 = some Sz.one := by kernel_rfl
@[go_sem] theorem fo273_3 : fieldOff Tryz.prog 273 3 = some 3 := by kernel_rfl
@[go_sem] theorem fs273_3 : fieldSz Tryz.prog 273 3 = some Sz.one := by kernel_rfl
@[go_sem] theorem sz274 : szOf Tryz.prog 274 = some (Sz.agg 4) := by kernel_rfl
@[go_sem] theorem zo274 : zeroOf Tryz.prog 274 = some (Sz.agg 4, SV.agg [SC.pv PV.nilp, SC.pv PV.nilp, SC.pv PV.nilp, SC.pv (PV.str ByteArray.empty)]) := by kernel_rfl
@[go_sem] theorem pl274 : placesOf Tryz.prog 274 = some [(0, Sz.one), (1, Sz.one), (2, Sz.one), (3, Sz.one)] := by kernel_rfl
@[go_sem] theorem eq274 : eqTOf Tryz.prog 274 = EqT.other := by kernel_rfl
@[go_sem] theorem cv274 : cvTOf Tryz.prog 274 = CvT.other := by kernel_rfl
@[go_sem] theorem fo274_0 : fieldOff Tryz.prog 274 0 = some 0 := by kernel_rfl
@[go_sem] theorem fs274_0 : fieldSz Tryz.prog 274 0 = some Sz.one := by kernel_rfl
@[go_sem] theorem fo274_1 : fieldOff Tryz.prog 274 1 = some 1 := by kernel_rfl
@[go_sem] theorem fs274_1 : fieldSz Tryz.prog 274 1 = some Sz.one := by kernel_rfl
@[go_sem] theorem fo274_2 : fieldOff Tryz.prog 274 2 = some 2 := by kernel_rfl
@[go_sem] theorem fs274_2 : fieldSz Tryz.prog 274 2 = some Sz.one := by kernel_rfl
@[go_sem] theorem fo274_3 : fieldOff Tryz.prog 274 3 = some 3 := by kernel_rfl
@[go_sem] theorem fs274_3 : fieldSz Tryz.prog 274 3 = some Sz.one := by kernel_rfl
@[go_sem] theorem eq275 : eqTOf Tryz.prog 275 = EqT.other := by kernel_rfl
@[go_sem] theorem cv275 : cvTOf Tryz.prog 275 = CvT.other := by kernel_rfl
@[go_sem] theorem sz276 : szOf Tryz.prog 276 = some (Sz.agg 0) := by kernel_rfl
@[go_sem] theorem zo276 : zeroOf Tryz.prog 276 = some (Sz.agg 0, SV.agg []) := by kernel_rfl
@[go_sem] theorem eq276 : eqTOf Tryz.prog 276 = EqT.other := by kernel_rfl
@[go_sem] theorem cv276 : cvTOf Tryz.prog 276 = CvT.other := by kernel_rfl
@[go_sem] theorem sz277 : szOf Tryz.prog 277 = some (Sz.agg 0) := by kernel_rfl
@[go_sem] theorem zo277 : zeroOf Tryz.prog 277 = some (Sz.agg 0, SV.agg []) := by kernel_rfl
@[go_sem] theorem eq277 : eqTOf Tryz.prog 277 = EqT.other := by kernel_rfl
@[go_sem] theorem cv277 : cvTOf Tryz.prog 277 = CvT.other := by kernel_rfl
@[go_sem] theorem sz278 : szOf Tryz.prog 278 = some Sz.one := by kernel_rfl
@[go_sem] theorem zo278 : zeroOf Tryz.prog 278 = some (Sz.one, SV.one (SC.pv PV.nilfn)) := by kernel_rfl
@[go_sem] theorem eq278 : eqTOf Tryz.prog 278 = EqT.other := by kernel_rfl
@[go_sem] theorem cv278 : cvTOf Tryz.prog 278 = CvT.other := by kernel_rfl
@[go_sem] theorem sz279 : szOf Tryz.prog 279 = some Sz.one := by kernel_rfl
@[go_sem] theorem zo279 : zeroOf Tryz.prog 279 = some (Sz.one, SV.one (SC.pv (PV.int IntKind.u8 0))) := by kernel_rfl
@[go_sem] theorem eq279 : eqTOf Tryz.prog 279 = EqT.other := by kernel_rfl
@[go_sem] theorem cv279 : cvTOf Tryz.prog 279 = CvT.int IntKind.u8 := by kernel_rfl
@[go_sem] theorem sz280 : szOf Tryz.prog 280 = some Sz.one := by kernel_rfl
@[go_sem] theorem zo280 : zeroOf Tryz.prog 280 = some (Sz.one, SV.one (SC.pv (PV.int IntKind.u8 0))) := by kernel_rfl
@[go_sem] theorem eq280 : eqTOf Tryz.prog 280 = EqT.other := by kernel_rfl
@[go_sem] theorem cv280 : cvTOf Tryz.prog 280 = CvT.int IntKind.u8 := by kernel_rfl
@[go_sem] theorem sz281 : szOf Tryz.prog 281 = some Sz.one := by kernel_rfl
@[go_sem] theorem zo281 : zeroOf Tryz.prog 281 = some (Sz.one, SV.one (SC.pv PV.nilfn)) := by kernel_rfl
@[go_sem] theorem eq281 : eqTOf Tryz.prog 281 = EqT.other := by kernel_rfl
@[go_sem] theorem cv281 : cvTOf Tryz.prog 281 = CvT.other := by kernel_rfl
@[go_sem] theorem sz282 : szOf Tryz.prog 282 = some Sz.one := by kernel_rfl
@[go_sem] theorem zo282 : zeroOf Tryz.prog 282 = some (Sz.one, SV.one (SC.pv (PV.int IntKind.i32 0))) := by kernel_rfl
@[go_sem] theorem eq282 : eqTOf Tryz.prog 282 = EqT.other := by kernel_rfl
@[go_sem] theorem cv282 : cvTOf Tryz.prog 282 = CvT.int IntKind.i32 := by kernel_rfl
@[go_sem] theorem sz283 : szOf Tryz.prog 283 = some Sz.one := by kernel_rfl
@[go_sem] theorem zo283 : zeroOf Tryz.prog 283 = some (Sz.one, SV.one (SC.pv (PV.int IntKind.i32 0))) := by kernel_rfl
@[go_sem] theorem eq283 : eqTOf Tryz.prog 283 = EqT.other := by kernel_rfl
@[go_sem] theorem cv283 : cvTOf Tryz.prog 283 = CvT.int IntKind.i32 := by kernel_rfl
@[go_sem] theorem sz284 : szOf Tryz.prog 284 = some (Sz.agg 11) := by kernel_rfl
@[go_sem] theorem zo284 : zeroOf Tryz.prog 284 = some (Sz.agg 11, SV.agg [SC.pv (PV.int IntKind.u64 0), SC.pv (PV.int IntKind.u64 0), SC.pv (PV.int IntKind.u32 0), SC.pv (PV.int IntKind.u8 0), SC.pv (PV.int IntKind.u8 0), SC.pv (PV.int IntKind.u8 0), SC.pv (PV.int IntKind.u8 0), SC.pv PV.nilfn, SC.pv PV.nilp, SC.pv (PV.int IntKind.i32 0), SC.pv (PV.int IntKind.i32 0)]) := by kernel_rfl
@[go_sem] theorem pl284 : placesOf Tryz.prog 284 = some [(0, Sz.one), (1, Sz.one), (2, Sz.one), (3, Sz.one), (4, Sz.one), (5, Sz.one), (6, Sz.one), (7, Sz.one), (8, Sz.one), (9, Sz.one), (10, Sz.one)] := by kernel_rfl
@[go_sem] theorem eq284 : eqTOf Tryz.prog 284 = EqT.other := by kernel_rfl
@[go_sem] theorem cv284 : cvTOf Tryz.prog 284 = CvT.other := by kernel_rfl
@[go_sem] theorem fo284_0 : fieldOff Tryz.prog 284 0 = some 0 := by kernel_rfl
@[go_sem] theorem fs284_0 : fieldSz Tryz.prog 284 0 = some Sz.one := by kernel_rfl
@[go_sem] theorem fo284_1 : fieldOff Tryz.prog 284 1 = some 1 := by kernel_rfl
@[go_sem] theorem fs284_1 : fieldSz Tryz.prog 284 1 = some Sz.one := by kernel_rfl
@[go_sem] theorem fo284_2 : fieldOff Tryz.prog 284 2 = some 2 := by kernel_rfl
@[go_sem] theorem fs284_2 : fieldSz Tryz.prog 284 2 = some Sz.one := by kernel_rfl
@[go_sem] theorem fo284_3 : fieldOff Tryz.prog 284 3 = some 3 := by kernel_rfl
@[go_sem] theorem fs284_3 : fieldSz Tryz.prog 284 3 = some Sz.one := by kernel_rfl
@[go_sem] theorem fo284_4 : fieldOff Tryz.prog 284 4 = some 4 := by kernel_rfl
@[go_sem] theorem fs284_4 : fieldSz Tryz.prog 284 4 = some Sz.one := by kernel_rfl
@[go_sem] theorem fo284_5 : fieldOff Tryz.prog 284 5 = some 5 := by kernel_rfl
@[go_sem] theorem fs284_5 : fieldSz Tryz.prog 284 5 = some Sz.one := by kernel_rfl
@[go_sem] theorem fo284_6 : fieldOff Tryz.prog 284 6 = some 6 := by kernel_rfl
@[go_sem] theorem fs284_6 : fieldSz Tryz.prog 284 6 = some Sz.one := by kernel_rfl
@[go_sem] theorem fo284_7 : fieldOff Tryz.prog 284 7 = some 7 := by kernel_rfl
@[go_sem] theorem fs284_7 : fieldSz Tryz.prog 284 7 = some Sz.one := by kernel_rfl
@[go_sem] theorem fo284_8 : fieldOff Tryz.prog 284 8 = some 8 := by kernel_rfl
@[go_sem] theorem fs284_8 : fieldSz Tryz.prog 284 8 = some Sz.one := by kernel_rfl
@[go_sem] theorem fo284_9 : fieldOff Tryz.prog 284 9 = some 9 := by kernel_rfl
@[go_sem] theorem fs284_9 : fieldSz Tryz.prog 284 9 = some Sz.one := by kernel_rfl
@[go_sem] theorem fo284_10 : fieldOff Tryz.prog 284 10 = some 10 := by kernel_rfl
@[go_sem] theorem fs284_10 : fieldSz Tryz.prog 284 10 = some Sz.one := by kernel_rfl
@[go_sem] theorem sz285 : szOf Tryz.prog 285 = some (Sz.agg 11) := by kernel_rfl
@[go_sem] theorem zo285 : zeroOf Tryz.prog 285 = some (Sz.agg 11, SV.agg [SC.pv (PV.int IntKind.u64 0), SC.pv (PV.int IntKind.u64 0), SC.pv (PV.int IntKind.u32 0), SC.pv (PV.int IntKind.u8 0), SC.pv (PV.int IntKind.u8 0), SC.pv (PV.int IntKind.u8 0), SC.pv (PV.int IntKind.u8 0), SC.pv PV.nilfn, SC.pv PV.nilp, SC.pv (PV.int IntKind.i32 0), SC.pv (PV.int IntKind.i32 0)]) := by kernel_rfl
@[go_sem] theorem pl285 : placesOf Tryz.prog 285 = some [(0, Sz.one), (1, Sz.one), (2, Sz.one), (3, Sz.one), (4, Sz.one), (5, Sz.one), (6, Sz.one), (7, Sz.one), (8, Sz.one), (9, Sz.one), (10, Sz.one)] := by kernel_rfl
@[go_sem] theorem eq285 : eqTOf Tryz.prog 285 = EqT.other := by kernel_rfl
@[go_sem] theorem cv285 : cvTOf Tryz.prog 285 = CvT.other := by kernel_rfl
@[go_sem] theorem fo285_0 : fieldOff Tryz.prog 285 0 = some 0 := by kernel_rfl
@[go_sem] theorem fs285_0 : fieldSz Tryz.prog 285 0 = some Sz.one := by kernel_rfl
@[go_sem] theorem fo285_1 : fieldOff Tryz.prog 285 1 = some 1 := by kernel_rfl
@[go_sem] theorem fs285_1 : fieldSz Tryz.prog 285 1 = some Sz.one := by kernel_rfl
@[go_sem] theorem fo285_2 : fieldOff Tryz.prog 285 2 = some 2 := by kernel_rfl
@[go_sem] theorem fs285_2 : fieldSz Tryz.prog 285 2 = some Sz.one := by kernel_rfl
@[go_sem] theorem fo285_3 : fieldOff Tryz.prog 285 3 = some 3 := by kernel_rfl
@[go_sem] theorem fs285_3 : fieldSz Tryz.prog 285 3 = some Sz.one := by kernel_rfl
@[go_sem] theorem fo285_4 : fieldOff Tryz.prog 285 4 = some 4 := by kernel_rfl
@[go_sem] theorem fs285_4 : fieldSz Tryz.prog 285 4 = some Sz.one := by kernel_rfl
@[go_sem] theorem fo285_5 : fieldOff Tryz.prog 285 5 = some 5 := by kernel_rfl
@[go_sem] theorem fs285_5 : fieldSz Tryz.prog 285 5 = some Sz.one := by kernel_rfl
@[go_sem] theorem fo285_6 : fieldOff Tryz.prog 285 6 = some 6 := by kernel_rfl
@[go_sem] theorem fs285_6 : fieldSz Tryz.prog 285 6 = some Sz.one := by kernel_rfl
@[go_sem] theorem fo285_7 : fieldOff Tryz.prog 285 7 = some 7 := by kernel_rfl
@[go_sem] theorem fs285_7 : fieldSz Tryz.prog 285 7 = some Sz.one := by kernel_rfl
@[go_sem] theorem fo285_8 : fieldOff Tryz.prog 285 8 = some 8 := by kernel_rfl
@[go_sem] theorem fs285_8 : fieldSz Tryz.prog 285 8 = some Sz.one := by kernel_rfl
@[go_sem] theorem fo285_9 : fieldOff Tryz.prog 285 9 = some 9 := by kernel_rfl
@[go_sem] theorem fs285_9 : fieldSz Tryz.prog 285 9 = some Sz.one := by kernel_rfl
@[go_sem] theorem fo285_10 : fieldOff Tryz.prog 285 10 = some 10 := by kernel_rfl
@[go_sem] theorem fs285_10 : fieldSz Tryz.prog 285 10 = some Sz.one := by kernel_rfl
@[go_sem] theorem sz286 : szOf Tryz.prog 286 = some Sz.one := by kernel_rfl
@[go_sem] theorem zo286 : zeroOf Tryz.prog 286 = some (Sz.one, SV.one (SC.pv PV.nilp)) := by kernel_rfl
@[go_sem] theorem eq286 : eqTOf Tryz.prog 286 = EqT.other := by kernel_rfl
@[go_sem] theorem cv286 : cvTOf Tryz.prog 286 = CvT.other := by kernel_rfl
def ann9 : Ann := ⟨[3, 4], [], [(12, [6]), (11, [14, 15, 13, 16]), (10, [14, 13, 11, 9]), (9, [6]), (8, [11, 9, 2, 7, 76]), (7, [11, 9, 2, 7, 12, 10, 8]), (6, [9, 2, 7, 10, 8, 4]), (5, [2, 7, 8, 4, 3]), (4, [6]), (3, [2, 4, 3, 48]), (2, [6]), (1, [2, 4, 3, 18]), (0, [2, 4, 3])], []⟩
@[go_sem] theorem ann9_imm : ann9.imm = [3, 4] := rfl
@[go_sem] theorem ann9_frz : ann9.frz = [] := rfl
@[go_sem] theorem ann9_live : ann9.live = [(12, [6]), (11, [14, 15, 13, 16]), (10, [14, 13, 11, 9]), (9, [6]), (8, [11, 9, 2, 7, 76]), (7, [11, 9, 2, 7, 12, 10, 8]), (6, [9, 2, 7, 10, 8, 4]), (5, [2, 7, 8, 4, 3]), (4, [6]), (3, [2, 4, 3, 48]), (2, [6]), (1, [2, 4, 3, 18]), (0, [2, 4, 3])] := rfl
@[go_sem] theorem ann9_head : ann9.head = [] := rfl
def ann13 : Ann := ⟨[], [], [(6, [0]), (5, [2, 8, 9, 1, 6, 7, 4, 5]), (4, [2, 1, 6, 7, 4, 5]), (3, [2, 1, 4, 5]), (2, [2, 1]), (1, [1]), (0, [])], []⟩
@[go_sem] theorem ann13_imm : ann13.imm = [] := rfl
@[go_sem] theorem ann13_frz : ann13.frz = [] := rfl
@[go_sem] theorem ann13_live : ann13.live = [(6, [0]), (5, [2, 8, 9, 1, 6, 7, 4, 5]), (4, [2, 1, 6, 7, 4, 5]), (3, [2, 1, 4, 5]), (2, [2, 1]), (1, [1]), (0, [])] := rfl
@[go_sem] theorem ann13_head : ann13.head = [] := rfl
def ann14 : Ann := ⟨[1], [], [(9, [2]), (8, [3]), (7, [3, 1, 6]), (6, [3, 1, 6, 4, 5]), (5, [3, 1, 4, 5]), (4, [3, 1, 4, 5]), (3, [3, 1, 4]), (2, [3, 1, 4]), (1, [3, 1]), (0, [1])], []⟩
@[go_sem] theorem ann14_imm : ann14.imm = [1] := rfl
@[go_sem] theorem ann14_frz : ann14.frz = [] := rfl
@[go_sem] theorem ann14_live : ann14.live = [(9, [2]), (8, [3]), (7, [3, 1, 6]), (6, [3, 1, 6, 4, 5]), (5, [3, 1, 4, 5]), (4, [3, 1, 4, 5]), (3, [3, 1, 4]), (2, [3, 1, 4]), (1, [3, 1]), (0, [1])] := rfl
@[go_sem] theorem ann14_head : ann14.head = [] := rfl
def ann15 : Ann := ⟨[3], [], [(6, [6, 7]), (5, [6, 7]), (4, [6, 3, 2, 1, 52]), (3, [6, 3, 2, 1, 9, 8]), (2, [6, 7]), (1, [6, 3, 2, 1, 12]), (0, [6, 3, 2, 1])], []⟩
@[go_sem] theorem ann15_imm : ann15.imm = [3] := rfl
@[go_sem] theorem ann15_frz : ann15.frz = [] := rfl
@[go_sem] theorem ann15_live : ann15.live = [(6, [6, 7]), (5, [6, 7]), (4, [6, 3, 2, 1, 52]), (3, [6, 3, 2, 1, 9, 8]), (2, [6, 7]), (1, [6, 3, 2, 1, 12]), (0, [6, 3, 2, 1])] := rfl
@[go_sem] theorem ann15_head : ann15.head = [] := rfl
def ann16 : Ann := ⟨[1], [], [(1, [2]), (0, [1])], []⟩
@[go_sem] theorem ann16_imm : ann16.imm = [1] := rfl
@[go_sem] theorem ann16_frz : ann16.frz = [] := rfl
@[go_sem] theorem ann16_live : ann16.live = [(1, [2]), (0, [1])] := rfl
@[go_sem] theorem ann16_head : ann16.head = [] := rfl
def ann17 : Ann := ⟨[4, 6], [], [(1, [8]), (0, [6, 4, 3, 1])], []⟩
@[go_sem] theorem ann17_imm : ann17.imm = [4, 6] := rfl
@[go_sem] theorem ann17_frz : ann17.frz = [] := rfl
@[go_sem] theorem ann17_live : ann17.live = [(1, [8]), (0, [6, 4, 3, 1])] := rfl
@[go_sem] theorem ann17_head : ann17.head = [] := rfl
def ann22 : Ann := ⟨[1], [], [(3, [2, 3]), (2, [2, 3]), (1, [2, 1, 6]), (0, [2, 1])], []⟩
@[go_sem] theorem ann22_imm : ann22.imm = [1] := rfl
@[go_sem] theorem ann22_frz : ann22.frz = [] := rfl
@[go_sem] theorem ann22_live : ann22.live = [(3, [2, 3]), (2, [2, 3]), (1, [2, 1, 6]), (0, [2, 1])] := rfl
@[go_sem] theorem ann22_head : ann22.head = [] := rfl
def ann24 : Ann := ⟨[1], [], [(4, [2, 3, 4]), (3, [3, 2]), (2, [2, 3, 4]), (1, [1, 7]), (0, [1])], []⟩
@[go_sem] theorem ann24_imm : ann24.imm = [1] := rfl
@[go_sem] theorem ann24_frz : ann24.frz = [] := rfl
@[go_sem] theorem ann24_live : ann24.live = [(4, [2, 3, 4]), (3, [3, 2]), (2, [2, 3, 4]), (1, [1, 7]), (0, [1])] := rfl
@[go_sem] theorem ann24_head : ann24.head = [] := rfl
def ann25 : Ann := ⟨[], [], [(9, [4]), (8, [13, 1, 0, 12]), (7, [4]), (6, [1, 0, 12, 13, 24]), (5, [1, 0, 12, 13, 5]), (4, [1, 0, 12, 13, 14]), (3, [13, 1, 0, 12]), (2, [4]), (1, [1, 0, 10]), (0, [1, 0])], [(4, [13, 1, 0, 12])]⟩
@[go_sem] theorem ann25_imm : ann25.imm = [] := rfl
@[go_sem] theorem ann25_frz : ann25.frz = [] := rfl
@[go_sem] theorem ann25_live : ann25.live = [(9, [4]), (8, [13, 1, 0, 12]), (7, [4]), (6, [1, 0, 12, 13, 24]), (5, [1, 0, 12, 13, 5]), (4, [1, 0, 12, 13, 14]), (3, [13, 1, 0, 12]), (2, [4]), (1, [1, 0, 10]), (0, [1, 0])] := rfl
@[go_sem] theorem ann25_head : ann25.head = [(4, [13, 1, 0, 12])] := rfl
def ann27 : Ann := ⟨[2, 3], [], [(4, [4, 5]), (3, [4, 2, 3, 6]), (2, [4, 5]), (1, [4, 2, 3, 14]), (0, [4, 2, 3])], []⟩
@[go_sem] theorem ann27_imm : ann27.imm = [2, 3] := rfl
@[go_sem] theorem ann27_frz : ann27.frz = [] := rfl
@[go_sem] theorem ann27_live : ann27.live = [(4, [4, 5]), (3, [4, 2, 3, 6]), (2, [4, 5]), (1, [4, 2, 3, 14]), (0, [4, 2, 3])] := rfl
@[go_sem] theorem ann27_head : ann27.head = [] := rfl
def ann28 : Ann := ⟨[], [], [(1, [4]), (0, [1, 0])], []⟩
@[go_sem] theorem ann28_imm : ann28.imm = [] := rfl
@[go_sem] theorem ann28_frz : ann28.frz = [] := rfl
@[go_sem] theorem ann28_live : ann28.live = [(1, [4]), (0, [1, 0])] := rfl
@[go_sem] theorem ann28_head : ann28.head = [] := rfl
def ann33 : Ann := ⟨[], [], [(6, [2]), (3, [3, 0]), (5, [2]), (4, [0, 3, 15]), (2, [0, 3, 7]), (1, [3, 0]), (0, [0])], [(2, [3, 0])]⟩
@[go_sem] theorem ann33_imm : ann33.imm = [] := rfl
@[go_sem] theorem ann33_frz : ann33.frz = [] := rfl
@[go_sem] theorem ann33_live : ann33.live = [(6, [2]), (3, [3, 0]), (5, [2]), (4, [0, 3, 15]), (2, [0, 3, 7]), (1, [3, 0]), (0, [0])] := rfl
@[go_sem] theorem ann33_head : ann33.head = [(2, [3, 0])] := rfl
def ann37 : Ann := ⟨[1], [], [(2, [2]), (1, [4]), (0, [1])], []⟩
@[go_sem] theorem ann37_imm : ann37.imm = [1] := rfl
@[go_sem] theorem ann37_frz : ann37.frz = [] := rfl
@[go_sem] theorem ann37_live : ann37.live = [(2, [2]), (1, [4]), (0, [1])] := rfl
@[go_sem] theorem ann37_head : ann37.head = [] := rfl
def ann39 : Ann := ⟨[2, 3], [], [(8, [4]), (5, [5, 3, 2]), (7, [4]), (6, [3, 2, 5, 84]), (4, [3, 2, 5, 70]), (3, [5, 3, 2]), (2, [4]), (1, [3, 2, 65]), (0, [3, 2])], [(4, [5, 3, 2])]⟩
@[go_sem] theorem ann39_imm : ann39.imm = [2, 3] := rfl
@[go_sem] theorem ann39_frz : ann39.frz = [] := rfl
@[go_sem] theorem ann39_live : ann39.live = [(8, [4]), (5, [5, 3, 2]), (7, [4]), (6, [3, 2, 5, 84]), (4, [3, 2, 5, 70]), (3, [5, 3, 2]), (2, [4]), (1, [3, 2, 65]), (0, [3, 2])] := rfl
@[go_sem] theorem ann39_head : ann39.head = [(4, [5, 3, 2])] := rfl
def ann44 : Ann := ⟨[], [], [(1, [2]), (0, [0])], []⟩
@[go_sem] theorem ann44_imm : ann44.imm = [] := rfl
@[go_sem] theorem ann44_frz : ann44.frz = [] := rfl
@[go_sem] theorem ann44_live : ann44.live = [(1, [2]), (0, [0])] := rfl
@[go_sem] theorem ann44_head : ann44.head = [] := rfl
def ann45 : Ann := ⟨[2, 3], [], [(5, [4, 5]), (2, [4, 5]), (4, [4, 5]), (3, [4, 2, 3, 15]), (1, [4, 2, 3, 6]), (0, [4, 2, 3])], []⟩
@[go_sem] theorem ann45_imm : ann45.imm = [2, 3] := rfl
@[go_sem] theorem ann45_frz : ann45.frz = [] := rfl
@[go_sem] theorem ann45_live : ann45.live = [(5, [4, 5]), (2, [4, 5]), (4, [4, 5]), (3, [4, 2, 3, 15]), (1, [4, 2, 3, 6]), (0, [4, 2, 3])] := rfl
@[go_sem] theorem ann45_head : ann45.head = [] := rfl
def ann49 : Ann := ⟨[], [], [(5, [0]), (4, [7, 6, 5, 4, 3, 2]), (3, [5, 4, 3, 2, 1]), (2, [3, 2, 1]), (1, [1]), (0, [])], []⟩
@[go_sem] theorem ann49_imm : ann49.imm = [] := rfl
@[go_sem] theorem ann49_frz : ann49.frz = [] := rfl
@[go_sem] theorem ann49_live : ann49.live = [(5, [0]), (4, [7, 6, 5, 4, 3, 2]), (3, [5, 4, 3, 2, 1]), (2, [3, 2, 1]), (1, [1]), (0, [])] := rfl
@[go_sem] theorem ann49_head : ann49.head = [] := rfl
def ann50 : Ann := ⟨[], [], [(1, [2]), (0, [0])], []⟩
@[go_sem] theorem ann50_imm : ann50.imm = [] := rfl
@[go_sem] theorem ann50_frz : ann50.frz = [] := rfl
@[go_sem] theorem ann50_live : ann50.live = [(1, [2]), (0, [0])] := rfl
@[go_sem] theorem ann50_head : ann50.head = [] := rfl
def ann51 : Ann := ⟨[], [], [(1, [4]), (0, [1, 0])], []⟩
@[go_sem] theorem ann51_imm : ann51.imm = [] := rfl
@[go_sem] theorem ann51_frz : ann51.frz = [] := rfl
@[go_sem] theorem ann51_live : ann51.live = [(1, [4]), (0, [1, 0])] := rfl
@[go_sem] theorem ann51_head : ann51.head = [] := rfl
def ann55 : Ann := ⟨[3], [], [(11, [6]), (10, [1, 16, 2, 7, 14, 15]), (9, [1, 2, 7, 14, 15, 16]), (8, [6]), (7, [1, 2, 14, 15, 16, 7, 9, 22]), (6, [1, 2, 14, 15, 16, 7, 9]), (5, [1, 2, 14, 15, 16, 7, 17]), (4, [1, 16, 2, 7, 14, 15]), (3, [1, 2, 7, 3]), (2, [6]), (1, [1, 2, 3, 11]), (0, [1, 2, 3])], [(5, [1, 16, 2, 7, 14, 15])]⟩
@[go_sem] theorem ann55_imm : ann55.imm = [3] := rfl
@[go_sem] theorem ann55_frz : ann55.frz = [] := rfl
@[go_sem] theorem ann55_live : ann55.live = [(11, [6]), (10, [1, 16, 2, 7, 14, 15]), (9, [1, 2, 7, 14, 15, 16]), (8, [6]), (7, [1, 2, 14, 15, 16, 7, 9, 22]), (6, [1, 2, 14, 15, 16, 7, 9]), (5, [1, 2, 14, 15, 16, 7, 17]), (4, [1, 16, 2, 7, 14, 15]), (3, [1, 2, 7, 3]), (2, [6]), (1, [1, 2, 3, 11]), (0, [1, 2, 3])] := rfl
@[go_sem] theorem ann55_head : ann55.head = [(5, [1, 16, 2, 7, 14, 15])] := rfl
def ann59 : Ann := ⟨[1], [], [(1, [2]), (0, [1])], []⟩
@[go_sem] theorem ann59_imm : ann59.imm = [1] := rfl
@[go_sem] theorem ann59_frz : ann59.frz = [] := rfl
@[go_sem] theorem ann59_live : ann59.live = [(1, [2]), (0, [1])] := rfl
@[go_sem] theorem ann59_head : ann59.head = [] := rfl
def ann63 : Ann := ⟨[], [], [(9, [2]), (5, [3, 0]), (8, [2]), (7, [5, 3, 0]), (6, [3, 0, 18]), (4, [3, 0, 12]), (3, [3, 0]), (2, [2]), (1, [0, 8]), (0, [0])], [(4, [3, 0])]⟩
@[go_sem] theorem ann63_imm : ann63.imm = [] := rfl
@[go_sem] theorem ann63_frz : ann63.frz = [] := rfl
@[go_sem] theorem ann63_live : ann63.live = [(9, [2]), (5, [3, 0]), (8, [2]), (7, [5, 3, 0]), (6, [3, 0, 18]), (4, [3, 0, 12]), (3, [3, 0]), (2, [2]), (1, [0, 8]), (0, [0])] := rfl
@[go_sem] theorem ann63_head : ann63.head = [(4, [3, 0])] := rfl
def ann64 : Ann := ⟨[1], [], [(1, [2]), (0, [1])], []⟩
@[go_sem] theorem ann64_imm : ann64.imm = [1] := rfl
@[go_sem] theorem ann64_frz : ann64.frz = [] := rfl
@[go_sem] theorem ann64_live : ann64.live = [(1, [2]), (0, [1])] := rfl
@[go_sem] theorem ann64_head : ann64.head = [] := rfl
def ann68 : Ann := ⟨[3, 5], [], [(3, [6]), (2, [6]), (1, [1, 3, 5, 9]), (0, [1, 3, 5])], []⟩
@[go_sem] theorem ann68_imm : ann68.imm = [3, 5] := rfl
@[go_sem] theorem ann68_frz : ann68.frz = [] := rfl
@[go_sem] theorem ann68_live : ann68.live = [(3, [6]), (2, [6]), (1, [1, 3, 5, 9]), (0, [1, 3, 5])] := rfl
@[go_sem] theorem ann68_head : ann68.head = [] := rfl
def ann70 : Ann := ⟨[2, 3], [], [(8, [4]), (5, [5, 3, 2]), (7, [4]), (6, [3, 2, 5, 68]), (4, [3, 2, 5, 54]), (3, [5, 3, 2]), (2, [4]), (1, [3, 2, 49]), (0, [3, 2])], [(4, [5, 3, 2])]⟩
@[go_sem] theorem ann70_imm : ann70.imm = [2, 3] := rfl
@[go_sem] theorem ann70_frz : ann70.frz = [] := rfl
@[go_sem] theorem ann70_live : ann70.live = [(8, [4]), (5, [5, 3, 2]), (7, [4]), (6, [3, 2, 5, 68]), (4, [3, 2, 5, 54]), (3, [5, 3, 2]), (2, [4]), (1, [3, 2, 49]), (0, [3, 2])] := rfl
@[go_sem] theorem ann70_head : ann70.head = [(4, [5, 3, 2])] := rfl
def ann72 : Ann := ⟨[], [], [(1, [2]), (0, [0])], []⟩
@[go_sem] theorem ann72_imm : ann72.imm = [] := rfl
@[go_sem] theorem ann72_frz : ann72.frz = [] := rfl
@[go_sem] theorem ann72_live : ann72.live = [(1, [2]), (0, [0])] := rfl
@[go_sem] theorem ann72_head : ann72.head = [] := rfl
def ann75 : Ann := ⟨[2, 3], [], [(1, [4]), (0, [3, 2])], []⟩
@[go_sem] theorem ann75_imm : ann75.imm = [2, 3] := rfl
@[go_sem] theorem ann75_frz : ann75.frz = [] := rfl
@[go_sem] theorem ann75_live : ann75.live = [(1, [4]), (0, [3, 2])] := rfl
@[go_sem] theorem ann75_head : ann75.head = [] := rfl
def ann76 : Ann := ⟨[], [], [(10, [6]), (9, [17, 2, 1, 15, 16]), (8, [6]), (7, [2, 1, 15, 16, 17, 30]), (6, [2, 1, 15, 16, 17, 9, 8]), (5, [2, 1, 15, 16, 17, 8, 7]), (4, [2, 1, 15, 16, 17, 18]), (3, [17, 2, 1, 15, 16]), (2, [6]), (1, [2, 1, 0, 14]), (0, [2, 1, 0])], [(4, [17, 2, 1, 15, 16])]⟩
@[go_sem] theorem ann76_imm : ann76.imm = [] := rfl
@[go_sem] theorem ann76_frz : ann76.frz = [] := rfl
@[go_sem] theorem ann76_live : ann76.live = [(10, [6]), (9, [17, 2, 1, 15, 16]), (8, [6]), (7, [2, 1, 15, 16, 17, 30]), (6, [2, 1, 15, 16, 17, 9, 8]), (5, [2, 1, 15, 16, 17, 8, 7]), (4, [2, 1, 15, 16, 17, 18]), (3, [17, 2, 1, 15, 16]), (2, [6]), (1, [2, 1, 0, 14]), (0, [2, 1, 0])] := rfl
@[go_sem] theorem ann76_head : ann76.head = [(4, [17, 2, 1, 15, 16])] := rfl
def ann78 : Ann := ⟨[], [], [(1, [2]), (0, [2, 0])], []⟩
@[go_sem] theorem ann78_imm : ann78.imm = [] := rfl
@[go_sem] theorem ann78_frz : ann78.frz = [] := rfl
@[go_sem] theorem ann78_live : ann78.live = [(1, [2]), (0, [2, 0])] := rfl
@[go_sem] theorem ann78_head : ann78.head = [] := rfl
def ann79 : Ann := ⟨[2], [], [(1, [3]), (0, [3, 2, 1])], []⟩
@[go_sem] theorem ann79_imm : ann79.imm = [2] := rfl
@[go_sem] theorem ann79_frz : ann79.frz = [] := rfl
@[go_sem] theorem ann79_live : ann79.live = [(1, [3]), (0, [3, 2, 1])] := rfl
@[go_sem] theorem ann79_head : ann79.head = [] := rfl
def ann80 : Ann := ⟨[4], [], [(6, [6, 1, 4, 3, 2]), (7, [1, 4, 3, 2, 6]), (5, [1, 4, 3, 2, 6, 25]), (4, [6, 1, 4, 3, 2]), (3, [1, 4, 3, 2]), (2, [1, 4, 3, 2, 16]), (1, [1, 4, 3, 2]), (0, [1, 4, 3, 2])], [(5, [6, 1, 4, 3, 2])]⟩
@[go_sem] theorem ann80_imm : ann80.imm = [4] := rfl
@[go_sem] theorem ann80_frz : ann80.frz = [] := rfl
@[go_sem] theorem ann80_live : ann80.live = [(6, [6, 1, 4, 3, 2]), (7, [1, 4, 3, 2, 6]), (5, [1, 4, 3, 2, 6, 25]), (4, [6, 1, 4, 3, 2]), (3, [1, 4, 3, 2]), (2, [1, 4, 3, 2, 16]), (1, [1, 4, 3, 2]), (0, [1, 4, 3, 2])] := rfl
@[go_sem] theorem ann80_head : ann80.head = [(5, [6, 1, 4, 3, 2])] := rfl
def ann81 : Ann := ⟨[5], [], [(7, [7, 1, 5, 4, 2]), (8, [1, 5, 4, 2, 7]), (6, [1, 5, 4, 2, 7, 47]), (5, [7, 1, 5, 4, 2]), (4, [1, 5, 4, 2]), (3, []), (2, [2, 1, 5, 4, 3, 34]), (1, [2, 1, 5, 4, 3]), (0, [2, 1, 5, 4, 3])], [(6, [7, 1, 5, 4, 2])]⟩
@[go_sem] theorem ann81_imm : ann81.imm = [5] := rfl
@[go_sem] theorem ann81_frz : ann81.frz = [] := rfl
@[go_sem] theorem ann81_live : ann81.live = [(7, [7, 1, 5, 4, 2]), (8, [1, 5, 4, 2, 7]), (6, [1, 5, 4, 2, 7, 47]), (5, [7, 1, 5, 4, 2]), (4, [1, 5, 4, 2]), (3, []), (2, [2, 1, 5, 4, 3, 34]), (1, [2, 1, 5, 4, 3]), (0, [2, 1, 5, 4, 3])] := rfl
@[go_sem] theorem ann81_head : ann81.head = [(6, [7, 1, 5, 4, 2])] := rfl
def ann82 : Ann := ⟨[], [], [(1, [2]), (0, [0])], []⟩
@[go_sem] theorem ann82_imm : ann82.imm = [] := rfl
@[go_sem] theorem ann82_frz : ann82.frz = [] := rfl
@[go_sem] theorem ann82_live : ann82.live = [(1, [2]), (0, [0])] := rfl
@[go_sem] theorem ann82_head : ann82.head = [] := rfl
def ann83 : Ann := ⟨[6], [], [(9, [8, 1, 6, 5, 2]), (10, [1, 6, 5, 2, 8]), (8, [1, 6, 5, 2, 8, 68]), (7, [8, 1, 6, 5, 2]), (6, [1, 6, 5, 2]), (5, [1, 6, 5, 2, 4]), (4, [1, 6, 5, 2, 4]), (3, []), (2, [2, 1, 6, 5, 4, 3, 47]), (1, [2, 1, 6, 5, 4, 3]), (0, [2, 1, 6, 5, 4, 3])], [(8, [8, 1, 6, 5, 2])]⟩
@[go_sem] theorem ann83_imm : ann83.imm = [6] := rfl
@[go_sem] theorem ann83_frz : ann83.frz = [] := rfl
@[go_sem] theorem ann83_live : ann83.live = [(9, [8, 1, 6, 5, 2]), (10, [1, 6, 5, 2, 8]), (8, [1, 6, 5, 2, 8, 68]), (7, [8, 1, 6, 5, 2]), (6, [1, 6, 5, 2]), (5, [1, 6, 5, 2, 4]), (4, [1, 6, 5, 2, 4]), (3, []), (2, [2, 1, 6, 5, 4, 3, 47]), (1, [2, 1, 6, 5, 4, 3]), (0, [2, 1, 6, 5, 4, 3])] := rfl
@[go_sem] theorem ann83_head : ann83.head = [(8, [8, 1, 6, 5, 2])] := rfl
def ann84 : Ann := ⟨[], [], [(1, [2]), (0, [0])], []⟩
@[go_sem] theorem ann84_imm : ann84.imm = [] := rfl
@[go_sem] theorem ann84_frz : ann84.frz = [] := rfl
@[go_sem] theorem ann84_live : ann84.live = [(1, [2]), (0, [0])] := rfl
@[go_sem] theorem ann84_head : ann84.head = [] := rfl
def ann85 : Ann := ⟨[1], [], [(3, [2, 3]), (2, [5, 4]), (1, [5, 4, 1]), (0, [1])], []⟩
@[go_sem] theorem ann85_imm : ann85.imm = [1] := rfl
@[go_sem] theorem ann85_frz : ann85.frz = [] := rfl
@[go_sem] theorem ann85_live : ann85.live = [(3, [2, 3]), (2, [5, 4]), (1, [5, 4, 1]), (0, [1])] := rfl
@[go_sem] theorem ann85_head : ann85.head = [] := rfl
def ann86 : Ann := ⟨[], [], [(1, [2]), (0, [0])], []⟩
@[go_sem] theorem ann86_imm : ann86.imm = [] := rfl
@[go_sem] theorem ann86_frz : ann86.frz = [] := rfl
@[go_sem] theorem ann86_live : ann86.live = [(1, [2]), (0, [0])] := rfl
@[go_sem] theorem ann86_head : ann86.head = [] := rfl
def ann87 : Ann := ⟨[2], [], [(3, [4, 5]), (2, [4, 5]), (1, [4, 2, 12]), (0, [4, 2, 1])], []⟩
@[go_sem] theorem ann87_imm : ann87.imm = [2] := rfl
@[go_sem] theorem ann87_frz : ann87.frz = [] := rfl
@[go_sem] theorem ann87_live : ann87.live = [(3, [4, 5]), (2, [4, 5]), (1, [4, 2, 12]), (0, [4, 2, 1])] := rfl
@[go_sem] theorem ann87_head : ann87.head = [] := rfl
def ann88 : Ann := ⟨[2, 3], [], [(1, [4]), (0, [4, 3, 2])], []⟩
@[go_sem] theorem ann88_imm : ann88.imm = [2, 3] := rfl
@[go_sem] theorem ann88_frz : ann88.frz = [] := rfl
@[go_sem] theorem ann88_live : ann88.live = [(1, [4]), (0, [4, 3, 2])] := rfl
@[go_sem] theorem ann88_head : ann88.head = [] := rfl
def ann89 : Ann := ⟨[3, 4, 5], [], [(21, [6, 7]), (20, [6, 74, 8, 4, 5, 3, 72, 73]), (19, [6, 8, 4, 5, 3, 72, 73, 74]), (18, [6, 7]), (17, [6, 13, 8, 4, 5, 3, 72, 73, 74, 12, 90]), (16, [6, 13, 8, 4, 5, 3, 72, 73, 74, 12]), (15, [6, 8, 4, 5, 3, 72, 73, 74, 10, 11]), (14, [6, 8, 4, 5, 3, 72, 73, 74, 75]), (13, [6, 74, 8, 4, 5, 3, 72, 73]), (12, [6, 7]), (11, [6, 9, 8, 4, 5, 3, 68]), (10, [6, 9, 8, 4, 5, 3]), (9, [6, 8, 4, 5, 3, 56]), (8, [6, 7]), (7, [6, 9, 8, 4, 5, 3, 51]), (6, [6, 9, 8, 4, 5, 3]), (5, [6, 8, 4, 5, 3, 39]), (4, [6, 8, 4, 5, 3]), (3, [6, 8, 4, 5, 3]), (2, [6, 7]), (1, [6, 5, 4, 3, 16]), (0, [6, 5, 4, 3])], [(14, [6, 74, 8, 4, 5, 3, 72, 73])]⟩
@[go_sem] theorem ann89_imm : ann89.imm = [3, 4, 5] := rfl
@[go_sem] theorem ann89_frz : ann89.frz = [] := rfl
@[go_sem] theorem ann89_live : ann89.live = [(21, [6, 7]), (20, [6, 74, 8, 4, 5, 3, 72, 73]), (19, [6, 8, 4, 5, 3, 72, 73, 74]), (18, [6, 7]), (17, [6, 13, 8, 4, 5, 3, 72, 73, 74, 12, 90]), (16, [6, 13, 8, 4, 5, 3, 72, 73, 74, 12]), (15, [6, 8, 4, 5, 3, 72, 73, 74, 10, 11]), (14, [6, 8, 4, 5, 3, 72, 73, 74, 75]), (13, [6, 74, 8, 4, 5, 3, 72, 73]), (12, [6, 7]), (11, [6, 9, 8, 4, 5, 3, 68]), (10, [6, 9, 8, 4, 5, 3]), (9, [6, 8, 4, 5, 3, 56]), (8, [6, 7]), (7, [6, 9, 8, 4, 5, 3, 51]), (6, [6, 9, 8, 4, 5, 3]), (5, [6, 8, 4, 5, 3, 39]), (4, [6, 8, 4, 5, 3]), (3, [6, 8, 4, 5, 3]), (2, [6, 7]), (1, [6, 5, 4, 3, 16]), (0, [6, 5, 4, 3])] := rfl
@[go_sem] theorem ann89_head : ann89.head = [(14, [6, 74, 8, 4, 5, 3, 72, 73])] := rfl
def ann90 : Ann := ⟨[3], [], [(12, [6]), (10, [7, 2, 1, 3]), (11, [2, 1, 3, 7]), (9, [2, 3, 7, 1, 45]), (8, [7, 2, 1, 3]), (7, [2, 1, 3]), (6, [2, 3, 1, 31]), (5, [2, 3, 1]), (4, [2, 3, 1, 23]), (3, [2, 3, 1]), (2, [6]), (1, [2, 3, 1, 18]), (0, [2, 3, 1])], [(9, [7, 2, 1, 3])]⟩
@[go_sem] theorem ann90_imm : ann90.imm = [3] := rfl
@[go_sem] theorem ann90_frz : ann90.frz = [] := rfl
@[go_sem] theorem ann90_live : ann90.live = [(12, [6]), (10, [7, 2, 1, 3]), (11, [2, 1, 3, 7]), (9, [2, 3, 7, 1, 45]), (8, [7, 2, 1, 3]), (7, [2, 1, 3]), (6, [2, 3, 1, 31]), (5, [2, 3, 1]), (4, [2, 3, 1, 23]), (3, [2, 3, 1]), (2, [6]), (1, [2, 3, 1, 18]), (0, [2, 3, 1])] := rfl
@[go_sem] theorem ann90_head : ann90.head = [(9, [7, 2, 1, 3])] := rfl
def ann94 : Ann := ⟨[2, 3], [], [(1, [4, 5]), (0, [4, 2])], []⟩
@[go_sem] theorem ann94_imm : ann94.imm = [2, 3] := rfl
@[go_sem] theorem ann94_frz : ann94.frz = [] := rfl
@[go_sem] theorem ann94_live : ann94.live = [(1, [4, 5]), (0, [4, 2])] := rfl
@[go_sem] theorem ann94_head : ann94.head = [] := rfl
def ann95 : Ann := ⟨[3, 4, 5], [], [(9, [6, 7]), (8, [6, 7]), (7, [6, 5, 4, 3, 27]), (6, [6, 5, 4, 3, 8]), (5, [6, 5, 4, 3, 8]), (4, [6, 7]), (3, [6, 5, 4, 3, 22]), (2, [6, 7]), (1, [6, 5, 4, 3, 11]), (0, [6, 5, 4, 3])], []⟩
@[go_sem] theorem ann95_imm : ann95.imm = [3, 4, 5] := rfl
@[go_sem] theorem ann95_frz : ann95.frz = [] := rfl
@[go_sem] theorem ann95_live : ann95.live = [(9, [6, 7]), (8, [6, 7]), (7, [6, 5, 4, 3, 27]), (6, [6, 5, 4, 3, 8]), (5, [6, 5, 4, 3, 8]), (4, [6, 7]), (3, [6, 5, 4, 3, 22]), (2, [6, 7]), (1, [6, 5, 4, 3, 11]), (0, [6, 5, 4, 3])] := rfl
@[go_sem] theorem ann95_head : ann95.head = [] := rfl
def ann96 : Ann := ⟨[4], [], [(5, [5, 6]), (2, [5, 6]), (4, [5, 0]), (3, [5, 0, 22]), (1, [5, 2, 4, 0, 7]), (0, [5, 2, 4, 0])], []⟩
@[go_sem] theorem ann96_imm : ann96.imm = [4] := rfl
@[go_sem] theorem ann96_frz : ann96.frz = [] := rfl
@[go_sem] theorem ann96_live : ann96.live = [(5, [5, 6]), (2, [5, 6]), (4, [5, 0]), (3, [5, 0, 22]), (1, [5, 2, 4, 0, 7]), (0, [5, 2, 4, 0])] := rfl
@[go_sem] theorem ann96_head : ann96.head = [] := rfl
def ann97 : Ann := ⟨[], [], [(7, [4]), (6, [8, 0, 1, 7]), (5, [4]), (4, [5, 0, 1, 7, 8, 16]), (3, [5, 0, 1, 7, 8]), (2, [0, 1, 7, 8, 9]), (1, [8, 0, 1, 7]), (0, [0, 1])], [(2, [8, 0, 1, 7])]⟩
@[go_sem] theorem ann97_imm : ann97.imm = [] := rfl
@[go_sem] theorem ann97_frz : ann97.frz = [] := rfl
@[go_sem] theorem ann97_live : ann97.live = [(7, [4]), (6, [8, 0, 1, 7]), (5, [4]), (4, [5, 0, 1, 7, 8, 16]), (3, [5, 0, 1, 7, 8]), (2, [0, 1, 7, 8, 9]), (1, [8, 0, 1, 7]), (0, [0, 1])] := rfl
@[go_sem] theorem ann97_head : ann97.head = [(2, [8, 0, 1, 7])] := rfl
def ann100 : Ann := ⟨[1], [], [(1, [2]), (0, [1])], []⟩
@[go_sem] theorem ann100_imm : ann100.imm = [1] := rfl
@[go_sem] theorem ann100_frz : ann100.frz = [] := rfl
@[go_sem] theorem ann100_live : ann100.live = [(1, [2]), (0, [1])] := rfl
@[go_sem] theorem ann100_head : ann100.head = [] := rfl
def ann102 : Ann := ⟨[3], [], [(16, [6, 7]), (15, [43, 8, 2, 1, 41, 42]), (14, [8, 2, 1, 41, 42, 43]), (13, [6, 7]), (12, [2, 1, 41, 42, 43, 11, 8, 58]), (11, [2, 1, 41, 42, 43, 11, 8, 12]), (10, [2, 1, 41, 42, 43, 8, 10]), (9, [2, 1, 41, 42, 43, 8, 44]), (8, [43, 8, 2, 1, 41, 42]), (7, [8, 2, 1, 3]), (6, [2, 1, 3, 8, 34]), (5, [2, 1, 3, 8]), (4, [2, 1, 3, 8, 26]), (3, [2, 1, 3, 8]), (2, [6, 7]), (1, [2, 1, 3, 23]), (0, [2, 1, 3])], [(9, [43, 8, 2, 1, 41, 42])]⟩
@[go_sem] theorem ann102_imm : ann102.imm = [3] := rfl
@[go_sem] theorem ann102_frz : ann102.frz = [] := rfl
@[go_sem] theorem ann102_live : ann102.live = [(16, [6, 7]), (15, [43, 8, 2, 1, 41, 42]), (14, [8, 2, 1, 41, 42, 43]), (13, [6, 7]), (12, [2, 1, 41, 42, 43, 11, 8, 58]), (11, [2, 1, 41, 42, 43, 11, 8, 12]), (10, [2, 1, 41, 42, 43, 8, 10]), (9, [2, 1, 41, 42, 43, 8, 44]), (8, [43, 8, 2, 1, 41, 42]), (7, [8, 2, 1, 3]), (6, [2, 1, 3, 8, 34]), (5, [2, 1, 3, 8]), (4, [2, 1, 3, 8, 26]), (3, [2, 1, 3, 8]), (2, [6, 7]), (1, [2, 1, 3, 23]), (0, [2, 1, 3])] := rfl
@[go_sem] theorem ann102_head : ann102.head = [(9, [43, 8, 2, 1, 41, 42])] := rfl
def ann104 : Ann := ⟨[2, 3], [], [(8, [4]), (5, [5, 3, 2]), (7, [4]), (6, [3, 2, 5, 31]), (4, [3, 2, 5, 17]), (3, [5, 3, 2]), (2, [4]), (1, [3, 2, 12]), (0, [3, 2])], [(4, [5, 3, 2])]⟩
@[go_sem] theorem ann104_imm : ann104.imm = [2, 3] := rfl
@[go_sem] theorem ann104_frz : ann104.frz = [] := rfl
@[go_sem] theorem ann104_live : ann104.live = [(8, [4]), (5, [5, 3, 2]), (7, [4]), (6, [3, 2, 5, 31]), (4, [3, 2, 5, 17]), (3, [5, 3, 2]), (2, [4]), (1, [3, 2, 12]), (0, [3, 2])] := rfl
@[go_sem] theorem ann104_head : ann104.head = [(4, [5, 3, 2])] := rfl
def ann105 : Ann := ⟨[], [], [(8, [4]), (5, [5, 1, 0]), (7, [4]), (6, [1, 0, 5, 25]), (4, [1, 0, 5, 14]), (3, [5, 1, 0]), (2, [4]), (1, [1, 0, 10]), (0, [1, 0])], [(4, [5, 1, 0])]⟩
@[go_sem] theorem ann105_imm : ann105.imm = [] := rfl
@[go_sem] theorem ann105_frz : ann105.frz = [] := rfl
@[go_sem] theorem ann105_live : ann105.live = [(8, [4]), (5, [5, 1, 0]), (7, [4]), (6, [1, 0, 5, 25]), (4, [1, 0, 5, 14]), (3, [5, 1, 0]), (2, [4]), (1, [1, 0, 10]), (0, [1, 0])] := rfl
@[go_sem] theorem ann105_head : ann105.head = [(4, [5, 1, 0])] := rfl
def ann108 : Ann := ⟨[1], [], [(1, [2]), (0, [1])], []⟩
@[go_sem] theorem ann108_imm : ann108.imm = [1] := rfl
@[go_sem] theorem ann108_frz : ann108.frz = [] := rfl
@[go_sem] theorem ann108_live : ann108.live = [(1, [2]), (0, [1])] := rfl
@[go_sem] theorem ann108_head : ann108.head = [] := rfl
def ann109 : Ann := ⟨[1], [], [(1, [2]), (0, [1])], []⟩
@[go_sem] theorem ann109_imm : ann109.imm = [1] := rfl
@[go_sem] theorem ann109_frz : ann109.frz = [] := rfl
@[go_sem] theorem ann109_live : ann109.live = [(1, [2]), (0, [1])] := rfl
@[go_sem] theorem ann109_head : ann109.head = [] := rfl
def ann110 : Ann := ⟨[3, 4], [], [(1, [5, 6]), (0, [5, 4, 2, 3])], []⟩
@[go_sem] theorem ann110_imm : ann110.imm = [3, 4] := rfl
@[go_sem] theorem ann110_frz : ann110.frz = [] := rfl
@[go_sem] theorem ann110_live : ann110.live = [(1, [5, 6]), (0, [5, 4, 2, 3])] := rfl
@[go_sem] theorem ann110_head : ann110.head = [] := rfl
def ann111 : Ann := ⟨[], [], [(23, [6]), (22, [72, 10, 2, 1, 70, 6, 71]), (21, [10, 2, 1, 70, 6, 71, 72]), (20, [10, 2, 1, 70, 6, 71, 72, 12]), (19, [10, 2, 1, 70, 6, 71, 72, 73]), (18, [72, 10, 2, 1, 70, 6, 71]), (17, [10, 2, 1, 6, 3]), (16, [10, 1, 6, 3, 2, 62]), (15, [10, 1, 6, 3, 2, 62, 61]), (14, [10, 1, 6, 3, 2, 62, 61]), (13, [10, 1, 6, 3, 2, 62, 61]), (12, [10, 1, 6, 3, 2, 61]), (11, [10, 1, 6, 3, 2]), (10, [6]), (9, [6]), (8, [6]), (7, [6, 8, 44]), (6, [6, 8, 9]), (3, [6, 3]), (5, [6, 2, 7, 1, 3, 29]), (4, [6, 3, 2, 7, 1, 26]), (2, [6, 3, 2, 7, 1]), (1, [6, 3, 2, 1, 15]), (0, [6, 3, 2, 1])], [(19, [72, 10, 2, 1, 70, 6, 71])]⟩
@[go_sem] theorem ann111_imm : ann111.imm = [] := rfl
@[go_sem] theorem ann111_frz : ann111.frz = [] := rfl
@[go_sem] theorem ann111_live : ann111.live = [(23, [6]), (22, [72, 10, 2, 1, 70, 6, 71]), (21, [10, 2, 1, 70, 6, 71, 72]), (20, [10, 2, 1, 70, 6, 71, 72, 12]), (19, [10, 2, 1, 70, 6, 71, 72, 73]), (18, [72, 10, 2, 1, 70, 6, 71]), (17, [10, 2, 1, 6, 3]), (16, [10, 1, 6, 3, 2, 62]), (15, [10, 1, 6, 3, 2, 62, 61]), (14, [10, 1, 6, 3, 2, 62, 61]), (13, [10, 1, 6, 3, 2, 62, 61]), (12, [10, 1, 6, 3, 2, 61]), (11, [10, 1, 6, 3, 2]), (10, [6]), (9, [6]), (8, [6]), (7, [6, 8, 44]), (6, [6, 8, 9]), (3, [6, 3]), (5, [6, 2, 7, 1, 3, 29]), (4, [6, 3, 2, 7, 1, 26]), (2, [6, 3, 2, 7, 1]), (1, [6, 3, 2, 1, 15]), (0, [6, 3, 2, 1])] := rfl
@[go_sem] theorem ann111_head : ann111.head = [(19, [72, 10, 2, 1, 70, 6, 71])] := rfl
def ann112 : Ann := ⟨[3], [], [(1, [4, 5]), (0, [4, 0])], []⟩
@[go_sem] theorem ann112_imm : ann112.imm = [3] := rfl
@[go_sem] theorem ann112_frz : ann112.frz = [] := rfl
@[go_sem] theorem ann112_live : ann112.live = [(1, [4, 5]), (0, [4, 0])] := rfl
@[go_sem] theorem ann112_head : ann112.head = [] := rfl
def ann115 : Ann := ⟨[4, 5], [], [(1, [6]), (0, [6, 5, 4, 0])], []⟩
@[go_sem] theorem ann115_imm : ann115.imm = [4, 5] := rfl
@[go_sem] theorem ann115_frz : ann115.frz = [] := rfl
@[go_sem] theorem ann115_live : ann115.live = [(1, [6]), (0, [6, 5, 4, 0])] := rfl
@[go_sem] theorem ann115_head : ann115.head = [] := rfl
def ann116 : Ann := ⟨[2, 3], [], [(1, [4]), (0, [4, 3, 2])], []⟩
@[go_sem] theorem ann116_imm : ann116.imm = [2, 3] := rfl
@[go_sem] theorem ann116_frz : ann116.frz = [] := rfl
@[go_sem] theorem ann116_live : ann116.live = [(1, [4]), (0, [4, 3, 2])] := rfl
@[go_sem] theorem ann116_head : ann116.head = [] := rfl
def ann117 : Ann := ⟨[], [], [(1, [2]), (0, [2, 0])], []⟩
@[go_sem] theorem ann117_imm : ann117.imm = [] := rfl
@[go_sem] theorem ann117_frz : ann117.frz = [] := rfl
@[go_sem] theorem ann117_live : ann117.live = [(1, [2]), (0, [2, 0])] := rfl
@[go_sem] theorem ann117_head : ann117.head = [] := rfl
def ann118 : Ann := ⟨[1], [], [(6, [2, 3]), (5, [4]), (4, [4]), (3, [4, 1]), (2, [2, 3]), (1, [1, 7]), (0, [1])], []⟩
@[go_sem] theorem ann118_imm : ann118.imm = [1] := rfl
@[go_sem] theorem ann118_frz : ann118.frz = [] := rfl
@[go_sem] theorem ann118_live : ann118.live = [(6, [2, 3]), (5, [4]), (4, [4]), (3, [4, 1]), (2, [2, 3]), (1, [1, 7]), (0, [1])] := rfl
@[go_sem] theorem ann118_head : ann118.head = [] := rfl
def ann119 : Ann := ⟨[2, 3], [], [(5, [4, 5]), (4, [4, 5]), (3, [4, 3, 2, 17]), (2, [4, 5]), (1, [4, 3, 2, 13]), (0, [4, 3, 2])], []⟩
@[go_sem] theorem ann119_imm : ann119.imm = [2, 3] := rfl
@[go_sem] theorem ann119_frz : ann119.frz = [] := rfl
@[go_sem] theorem ann119_live : ann119.live = [(5, [4, 5]), (4, [4, 5]), (3, [4, 3, 2, 17]), (2, [4, 5]), (1, [4, 3, 2, 13]), (0, [4, 3, 2])] := rfl
@[go_sem] theorem ann119_head : ann119.head = [] := rfl
def ann120 : Ann := ⟨[1], [], [(2, [2]), (1, [3]), (0, [1])], []⟩
@[go_sem] theorem ann120_imm : ann120.imm = [1] := rfl
@[go_sem] theorem ann120_frz : ann120.frz = [] := rfl
@[go_sem] theorem ann120_live : ann120.live = [(2, [2]), (1, [3]), (0, [1])] := rfl
@[go_sem] theorem ann120_head : ann120.head = [] := rfl
def ann121 : Ann := ⟨[3], [], [(11, [6]), (10, [1, 43, 2, 7, 41, 42]), (9, [1, 2, 7, 41, 42, 43]), (8, [6]), (7, [1, 2, 41, 42, 43, 7, 9, 49]), (6, [1, 2, 41, 42, 43, 7, 9]), (5, [1, 2, 41, 42, 43, 7, 44]), (4, [1, 43, 2, 7, 41, 42]), (3, [1, 2, 7, 3]), (2, [6]), (1, [1, 2, 3, 29]), (0, [1, 2, 3])], [(5, [1, 43, 2, 7, 41, 42])]⟩
@[go_sem] theorem ann121_imm : ann121.imm = [3] := rfl
@[go_sem] theorem ann121_frz : ann121.frz = [] := rfl
@[go_sem] theorem ann121_live : ann121.live = [(11, [6]), (10, [1, 43, 2, 7, 41, 42]), (9, [1, 2, 7, 41, 42, 43]), (8, [6]), (7, [1, 2, 41, 42, 43, 7, 9, 49]), (6, [1, 2, 41, 42, 43, 7, 9]), (5, [1, 2, 41, 42, 43, 7, 44]), (4, [1, 43, 2, 7, 41, 42]), (3, [1, 2, 7, 3]), (2, [6]), (1, [1, 2, 3, 29]), (0, [1, 2, 3])] := rfl
@[go_sem] theorem ann121_head : ann121.head = [(5, [1, 43, 2, 7, 41, 42])] := rfl
def ann122 : Ann := ⟨[], [], [(7, [4]), (6, [8, 0, 1, 7]), (5, [4]), (4, [5, 0, 1, 7, 8, 16]), (3, [5, 0, 1, 7, 8]), (2, [0, 1, 7, 8, 9]), (1, [8, 0, 1, 7]), (0, [0, 1])], [(2, [8, 0, 1, 7])]⟩
@[go_sem] theorem ann122_imm : ann122.imm = [] := rfl
@[go_sem] theorem ann122_frz : ann122.frz = [] := rfl
@[go_sem] theorem ann122_live : ann122.live = [(7, [4]), (6, [8, 0, 1, 7]), (5, [4]), (4, [5, 0, 1, 7, 8, 16]), (3, [5, 0, 1, 7, 8]), (2, [0, 1, 7, 8, 9]), (1, [8, 0, 1, 7]), (0, [0, 1])] := rfl
@[go_sem] theorem ann122_head : ann122.head = [(2, [8, 0, 1, 7])] := rfl
def ann124 : Ann := ⟨[3], [], [(9, [27, 2, 1, 25, 26]), (8, [2, 1, 25, 26, 27]), (7, [2, 1, 25, 26, 27, 7]), (6, [2, 1, 25, 26, 27, 28]), (5, [27, 2, 1, 25, 26]), (4, [2, 1, 3]), (3, [2, 3, 1, 21]), (2, [2, 3, 1]), (1, [2, 3, 1, 15]), (0, [2, 3, 1])], [(6, [27, 2, 1, 25, 26])]⟩
@[go_sem] theorem ann124_imm : ann124.imm = [3] := rfl
@[go_sem] theorem ann124_frz : ann124.frz = [] := rfl
@[go_sem] theorem ann124_live : ann124.live = [(9, [27, 2, 1, 25, 26]), (8, [2, 1, 25, 26, 27]), (7, [2, 1, 25, 26, 27, 7]), (6, [2, 1, 25, 26, 27, 28]), (5, [27, 2, 1, 25, 26]), (4, [2, 1, 3]), (3, [2, 3, 1, 21]), (2, [2, 3, 1]), (1, [2, 3, 1, 15]), (0, [2, 3, 1])] := rfl
@[go_sem] theorem ann124_head : ann124.head = [(6, [27, 2, 1, 25, 26])] := rfl
def ann127 : Ann := ⟨[1], [], [(7, [2]), (6, [9, 3, 7, 2, 8]), (5, [3, 7, 2, 8, 9]), (4, [3, 7, 2, 8, 9, 5]), (3, [3, 7, 2, 8, 9, 10]), (2, [9, 3, 7, 2, 8]), (1, [3, 2, 1]), (0, [2, 1])], [(3, [9, 3, 7, 2, 8])]⟩
@[go_sem] theorem ann127_imm : ann127.imm = [1] := rfl
@[go_sem] theorem ann127_frz : ann127.frz = [] := rfl
@[go_sem] theorem ann127_live : ann127.live = [(7, [2]), (6, [9, 3, 7, 2, 8]), (5, [3, 7, 2, 8, 9]), (4, [3, 7, 2, 8, 9, 5]), (3, [3, 7, 2, 8, 9, 10]), (2, [9, 3, 7, 2, 8]), (1, [3, 2, 1]), (0, [2, 1])] := rfl
@[go_sem] theorem ann127_head : ann127.head = [(3, [9, 3, 7, 2, 8])] := rfl
def ann128 : Ann := ⟨[2, 3], [], [(1, [4]), (0, [3, 2])], []⟩
@[go_sem] theorem ann128_imm : ann128.imm = [2, 3] := rfl
@[go_sem] theorem ann128_frz : ann128.frz = [] := rfl
@[go_sem] theorem ann128_live : ann128.live = [(1, [4]), (0, [3, 2])] := rfl
@[go_sem] theorem ann128_head : ann128.head = [] := rfl
def ann133 : Ann := ⟨[2, 10], [], [(5, [4, 5]), (4, [4, 5]), (3, [4, 7, 23]), (2, [4, 7, 6]), (1, [4, 6, 2]), (0, [4, 2, 1])], []⟩
@[go_sem] theorem ann133_imm : ann133.imm = [2, 10] := rfl
@[go_sem] theorem ann133_frz : ann133.frz = [] := rfl
@[go_sem] theorem ann133_live : ann133.live = [(5, [4, 5]), (4, [4, 5]), (3, [4, 7, 23]), (2, [4, 7, 6]), (1, [4, 6, 2]), (0, [4, 2, 1])] := rfl
@[go_sem] theorem ann133_head : ann133.head = [] := rfl
def ann135 : Ann := ⟨[2, 3], [], [(1, [4]), (0, [3, 2])], []⟩
@[go_sem] theorem ann135_imm : ann135.imm = [2, 3] := rfl
@[go_sem] theorem ann135_frz : ann135.frz = [] := rfl
@[go_sem] theorem ann135_live : ann135.live = [(1, [4]), (0, [3, 2])] := rfl
@[go_sem] theorem ann135_head : ann135.head = [] := rfl
def ann137 : Ann := ⟨[], [], [(1, [2]), (0, [2, 0])], []⟩
@[go_sem] theorem ann137_imm : ann137.imm = [] := rfl
@[go_sem] theorem ann137_frz : ann137.frz = [] := rfl
@[go_sem] theorem ann137_live : ann137.live = [(1, [2]), (0, [2, 0])] := rfl
@[go_sem] theorem ann137_head : ann137.head = [] := rfl
def ann138 : Ann := ⟨[1], [], [(1, [2]), (0, [2, 1])], []⟩
@[go_sem] theorem ann138_imm : ann138.imm = [1] := rfl
@[go_sem] theorem ann138_frz : ann138.frz = [] := rfl
@[go_sem] theorem ann138_live : ann138.live = [(1, [2]), (0, [2, 1])] := rfl
@[go_sem] theorem ann138_head : ann138.head = [] := rfl
def ann140 : Ann := ⟨[1], [], [(2, [2]), (1, [4]), (0, [1])], []⟩
@[go_sem] theorem ann140_imm : ann140.imm = [1] := rfl
@[go_sem] theorem ann140_frz : ann140.frz = [] := rfl
@[go_sem] theorem ann140_live : ann140.live = [(2, [2]), (1, [4]), (0, [1])] := rfl
@[go_sem] theorem ann140_head : ann140.head = [] := rfl
def ann142 : Ann := ⟨[1], [], [(1, [2]), (0, [1])], []⟩
@[go_sem] theorem ann142_imm : ann142.imm = [1] := rfl
@[go_sem] theorem ann142_frz : ann142.frz = [] := rfl
@[go_sem] theorem ann142_live : ann142.live = [(1, [2]), (0, [1])] := rfl
@[go_sem] theorem ann142_head : ann142.head = [] := rfl
def ann143 : Ann := ⟨[1], [], [(8, [2]), (5, [3, 1]), (7, [2]), (6, [1, 3, 20]), (4, [1, 3, 11]), (3, [3, 1]), (2, [2]), (1, [1, 6]), (0, [1])], [(4, [3, 1])]⟩
@[go_sem] theorem ann143_imm : ann143.imm = [1] := rfl
@[go_sem] theorem ann143_frz : ann143.frz = [] := rfl
@[go_sem] theorem ann143_live : ann143.live = [(8, [2]), (5, [3, 1]), (7, [2]), (6, [1, 3, 20]), (4, [1, 3, 11]), (3, [3, 1]), (2, [2]), (1, [1, 6]), (0, [1])] := rfl
@[go_sem] theorem ann143_head : ann143.head = [(4, [3, 1])] := rfl
def ann146 : Ann := ⟨[], [], [(12, [2, 3]), (11, [2, 3]), (10, [4, 40]), (6, [5, 0, 4]), (9, [0, 4, 5]), (8, [2, 3]), (7, [0, 5, 4, 29]), (5, [0, 5, 4, 22]), (4, [5, 0, 4]), (3, [0, 4]), (2, [2, 3]), (1, [0, 18]), (0, [0])], [(5, [5, 0, 4])]⟩
@[go_sem] theorem ann146_imm : ann146.imm = [] := rfl
@[go_sem] theorem ann146_frz : ann146.frz = [] := rfl
@[go_sem] theorem ann146_live : ann146.live = [(12, [2, 3]), (11, [2, 3]), (10, [4, 40]), (6, [5, 0, 4]), (9, [0, 4, 5]), (8, [2, 3]), (7, [0, 5, 4, 29]), (5, [0, 5, 4, 22]), (4, [5, 0, 4]), (3, [0, 4]), (2, [2, 3]), (1, [0, 18]), (0, [0])] := rfl
@[go_sem] theorem ann146_head : ann146.head = [(5, [5, 0, 4])] := rfl
def ann147 : Ann := ⟨[], [], [(1, [2]), (0, [0])], []⟩
@[go_sem] theorem ann147_imm : ann147.imm = [] := rfl
@[go_sem] theorem ann147_frz : ann147.frz = [] := rfl
@[go_sem] theorem ann147_live : ann147.live = [(1, [2]), (0, [0])] := rfl
@[go_sem] theorem ann147_head : ann147.head = [] := rfl
def ann152 : Ann := ⟨[2], [], [(1, [4]), (0, [4, 1, 2])], []⟩
@[go_sem] theorem ann152_imm : ann152.imm = [2] := rfl
@[go_sem] theorem ann152_frz : ann152.frz = [] := rfl
@[go_sem] theorem ann152_live : ann152.live = [(1, [4]), (0, [4, 1, 2])] := rfl
@[go_sem] theorem ann152_head : ann152.head = [] := rfl
def ann153 : Ann := ⟨[1], [], [(1, [2]), (0, [1])], []⟩
@[go_sem] theorem ann153_imm : ann153.imm = [1] := rfl
@[go_sem] theorem ann153_frz : ann153.frz = [] := rfl
@[go_sem] theorem ann153_live : ann153.live = [(1, [2]), (0, [1])] := rfl
@[go_sem] theorem ann153_head : ann153.head = [] := rfl
def ann154 : Ann := ⟨[], [], [(1, [2]), (0, [0])], []⟩
@[go_sem] theorem ann154_imm : ann154.imm = [] := rfl
@[go_sem] theorem ann154_frz : ann154.frz = [] := rfl
@[go_sem] theorem ann154_live : ann154.live = [(1, [2]), (0, [0])] := rfl
@[go_sem] theorem ann154_head : ann154.head = [] := rfl
def ann155 : Ann := ⟨[1], [], [(7, [2]), (6, [9, 3, 7, 8]), (5, [3, 7, 8, 9]), (4, [7, 8, 9, 5, 3]), (3, [7, 8, 9, 3, 10]), (2, [9, 3, 7, 8]), (1, [3, 1]), (0, [1])], [(3, [9, 3, 7, 8])]⟩
@[go_sem] theorem ann155_imm : ann155.imm = [1] := rfl
@[go_sem] theorem ann155_frz : ann155.frz = [] := rfl
@[go_sem] theorem ann155_live : ann155.live = [(7, [2]), (6, [9, 3, 7, 8]), (5, [3, 7, 8, 9]), (4, [7, 8, 9, 5, 3]), (3, [7, 8, 9, 3, 10]), (2, [9, 3, 7, 8]), (1, [3, 1]), (0, [1])] := rfl
@[go_sem] theorem ann155_head : ann155.head = [(3, [9, 3, 7, 8])] := rfl
def ann158 : Ann := ⟨[], [], [(9, [4]), (8, [13, 1, 0, 12]), (7, [4]), (6, [1, 0, 12, 13, 24]), (5, [1, 0, 12, 13, 5]), (4, [1, 0, 12, 13, 14]), (3, [13, 1, 0, 12]), (2, [4]), (1, [1, 0, 10]), (0, [1, 0])], [(4, [13, 1, 0, 12])]⟩
@[go_sem] theorem ann158_imm : ann158.imm = [] := rfl
@[go_sem] theorem ann158_frz : ann158.frz = [] := rfl
@[go_sem] theorem ann158_live : ann158.live = [(9, [4]), (8, [13, 1, 0, 12]), (7, [4]), (6, [1, 0, 12, 13, 24]), (5, [1, 0, 12, 13, 5]), (4, [1, 0, 12, 13, 14]), (3, [13, 1, 0, 12]), (2, [4]), (1, [1, 0, 10]), (0, [1, 0])] := rfl
@[go_sem] theorem ann158_head : ann158.head = [(4, [13, 1, 0, 12])] := rfl
def ann160 : Ann := ⟨[4, 5], [], [(11, [37, 3, 2, 5, 4, 35, 36]), (10, [3, 2, 5, 4, 35, 36, 37]), (9, [3, 2, 5, 4, 35, 36, 37, 9, 8]), (8, [3, 2, 5, 4, 35, 36, 37, 38]), (7, [37, 3, 2, 5, 4, 35, 36]), (6, [3, 2, 5, 4]), (5, [3, 2, 5, 4, 28]), (4, [3, 2, 5, 4]), (3, [3, 2, 5, 4, 20]), (2, [3, 2, 5, 4]), (1, [3, 2, 5, 4, 12]), (0, [3, 2, 5, 4])], [(8, [37, 3, 2, 5, 4, 35, 36])]⟩
@[go_sem] theorem ann160_imm : ann160.imm = [4, 5] := rfl
@[go_sem] theorem ann160_frz : ann160.frz = [] := rfl
@[go_sem] theorem ann160_live : ann160.live = [(11, [37, 3, 2, 5, 4, 35, 36]), (10, [3, 2, 5, 4, 35, 36, 37]), (9, [3, 2, 5, 4, 35, 36, 37, 9, 8]), (8, [3, 2, 5, 4, 35, 36, 37, 38]), (7, [37, 3, 2, 5, 4, 35, 36]), (6, [3, 2, 5, 4]), (5, [3, 2, 5, 4, 28]), (4, [3, 2, 5, 4]), (3, [3, 2, 5, 4, 20]), (2, [3, 2, 5, 4]), (1, [3, 2, 5, 4, 12]), (0, [3, 2, 5, 4])] := rfl
@[go_sem] theorem ann160_head : ann160.head = [(8, [37, 3, 2, 5, 4, 35, 36])] := rfl
def ann161 : Ann := ⟨[3, 4], [], [(7, [16, 4, 2, 14, 15]), (6, [4, 2, 14, 15, 16]), (5, [4, 2, 14, 15, 16, 8, 23]), (4, [4, 2, 14, 15, 16, 8]), (3, [4, 2, 14, 15, 16, 17]), (2, [16, 4, 2, 14, 15]), (1, [4, 2, 5]), (0, [4, 2, 3])], [(3, [16, 4, 2, 14, 15])]⟩
@[go_sem] theorem ann161_imm : ann161.imm = [3, 4] := rfl
@[go_sem] theorem ann161_frz : ann161.frz = [] := rfl
@[go_sem] theorem ann161_live : ann161.live = [(7, [16, 4, 2, 14, 15]), (6, [4, 2, 14, 15, 16]), (5, [4, 2, 14, 15, 16, 8, 23]), (4, [4, 2, 14, 15, 16, 8]), (3, [4, 2, 14, 15, 16, 17]), (2, [16, 4, 2, 14, 15]), (1, [4, 2, 5]), (0, [4, 2, 3])] := rfl
@[go_sem] theorem ann161_head : ann161.head = [(3, [16, 4, 2, 14, 15])] := rfl
def ann162 : Ann := ⟨[4], [], [(2, []), (1, [4, 0, 2, 8]), (0, [4, 0, 2])], []⟩
@[go_sem] theorem ann162_imm : ann162.imm = [4] := rfl
@[go_sem] theorem ann162_frz : ann162.frz = [] := rfl
@[go_sem] theorem ann162_live : ann162.live = [(2, []), (1, [4, 0, 2, 8]), (0, [4, 0, 2])] := rfl
@[go_sem] theorem ann162_head : ann162.head = [] := rfl
def ann164 : Ann := ⟨[3, 4], [], [(1, [5, 6]), (0, [5, 4, 2, 3])], []⟩
@[go_sem] theorem ann164_imm : ann164.imm = [3, 4] := rfl
@[go_sem] theorem ann164_frz : ann164.frz = [] := rfl
@[go_sem] theorem ann164_live : ann164.live = [(1, [5, 6]), (0, [5, 4, 2, 3])] := rfl
@[go_sem] theorem ann164_head : ann164.head = [] := rfl
def ann165 : Ann := ⟨[4], [], [(3, [5, 6]), (2, [5, 0]), (1, [5, 2, 0, 10]), (0, [5, 2, 0, 4])], []⟩
@[go_sem] theorem ann165_imm : ann165.imm = [4] := rfl
@[go_sem] theorem ann165_frz : ann165.frz = [] := rfl
@[go_sem] theorem ann165_live : ann165.live = [(3, [5, 6]), (2, [5, 0]), (1, [5, 2, 0, 10]), (0, [5, 2, 0, 4])] := rfl
@[go_sem] theorem ann165_head : ann165.head = [] := rfl
def ann167 : Ann := ⟨[], [], [(10, [2]), (9, [2]), (8, [4]), (7, [4, 3]), (6, [4, 3]), (5, [4, 3]), (4, [4, 3]), (3, [4, 3]), (2, [4, 3]), (1, [3]), (0, [0])], []⟩
@[go_sem] theorem ann167_imm : ann167.imm = [] := rfl
@[go_sem] theorem ann167_frz : ann167.frz = [] := rfl
@[go_sem] theorem ann167_live : ann167.live = [(10, [2]), (9, [2]), (8, [4]), (7, [4, 3]), (6, [4, 3]), (5, [4, 3]), (4, [4, 3]), (3, [4, 3]), (2, [4, 3]), (1, [3]), (0, [0])] := rfl
@[go_sem] theorem ann167_head : ann167.head = [] := rfl
def ann168 : Ann := ⟨[4], [], [(14, [6]), (3, [6, 3]), (6, [6, 3]), (8, [6, 3]), (11, [6, 3]), (10, [6, 3, 2]), (13, [6, 3]), (12, [6, 3, 2, 42]), (9, [6, 3, 2, 8, 30]), (7, [6, 3, 2, 8, 22]), (5, [6, 3, 2, 8, 15]), (4, [6, 3, 2, 8, 15]), (2, [6, 3, 2, 8, 9]), (1, [6, 3, 2, 8]), (0, [6, 3, 2, 4])], []⟩
@[go_sem] theorem ann168_imm : ann168.imm = [4] := rfl
@[go_sem] theorem ann168_frz : ann168.frz = [] := rfl
@[go_sem] theorem ann168_live : ann168.live = [(14, [6]), (3, [6, 3]), (6, [6, 3]), (8, [6, 3]), (11, [6, 3]), (10, [6, 3, 2]), (13, [6, 3]), (12, [6, 3, 2, 42]), (9, [6, 3, 2, 8, 30]), (7, [6, 3, 2, 8, 22]), (5, [6, 3, 2, 8, 15]), (4, [6, 3, 2, 8, 15]), (2, [6, 3, 2, 8, 9]), (1, [6, 3, 2, 8]), (0, [6, 3, 2, 4])] := rfl
@[go_sem] theorem ann168_head : ann168.head = [] := rfl
def ann169 : Ann := ⟨[1], [], [(19, [2]), (18, [2]), (17, [1, 120]), (16, [2]), (15, [1, 99]), (8, [2]), (7, [1, 50]), (11, [2]), (10, [1, 72]), (14, [2]), (13, [1, 78]), (5, [2]), (4, [1, 35]), (12, [1, 73]), (9, [1, 22, 51]), (6, [1, 22, 36]), (3, [1, 22]), (2, [2]), (1, [1, 20]), (0, [1])], []⟩
@[go_sem] theorem ann169_imm : ann169.imm = [1] := rfl
@[go_sem] theorem ann169_frz : ann169.frz = [] := rfl
@[go_sem] theorem ann169_live : ann169.live = [(19, [2]), (18, [2]), (17, [1, 120]), (16, [2]), (15, [1, 99]), (8, [2]), (7, [1, 50]), (11, [2]), (10, [1, 72]), (14, [2]), (13, [1, 78]), (5, [2]), (4, [1, 35]), (12, [1, 73]), (9, [1, 22, 51]), (6, [1, 22, 36]), (3, [1, 22]), (2, [2]), (1, [1, 20]), (0, [1])] := rfl
@[go_sem] theorem ann169_head : ann169.head = [] := rfl
def ann170 : Ann := ⟨[], [], [(10, [2]), (9, [2]), (8, [4]), (7, [4, 3]), (6, [4, 3]), (5, [4, 3]), (4, [4, 3]), (3, [4, 3]), (2, [4, 3]), (1, [3]), (0, [0])], []⟩
@[go_sem] theorem ann170_imm : ann170.imm = [] := rfl
@[go_sem] theorem ann170_frz : ann170.frz = [] := rfl
@[go_sem] theorem ann170_live : ann170.live = [(10, [2]), (9, [2]), (8, [4]), (7, [4, 3]), (6, [4, 3]), (5, [4, 3]), (4, [4, 3]), (3, [4, 3]), (2, [4, 3]), (1, [3]), (0, [0])] := rfl
@[go_sem] theorem ann170_head : ann170.head = [] := rfl
def ann171 : Ann := ⟨[1], [], [(6, [2]), (4, [4, 1, 3]), (5, [1, 3, 4]), (3, [1, 4, 3, 9]), (2, [4, 1, 3]), (1, [1, 3]), (0, [1])], [(3, [4, 1, 3])]⟩
@[go_sem] theorem ann171_imm : ann171.imm = [1] := rfl
@[go_sem] theorem ann171_frz : ann171.frz = [] := rfl
@[go_sem] theorem ann171_live : ann171.live = [(6, [2]), (4, [4, 1, 3]), (5, [1, 3, 4]), (3, [1, 4, 3, 9]), (2, [4, 1, 3]), (1, [1, 3]), (0, [1])] := rfl
@[go_sem] theorem ann171_head : ann171.head = [(3, [4, 1, 3])] := rfl
def ann178 : Ann := ⟨[5], [], [(3, []), (2, [4, 26]), (1, [4, 2, 3, 7, 5]), (0, [4, 2, 3, 5, 1])], []⟩
@[go_sem] theorem ann178_imm : ann178.imm = [5] := rfl
@[go_sem] theorem ann178_frz : ann178.frz = [] := rfl
@[go_sem] theorem ann178_live : ann178.live = [(3, []), (2, [4, 26]), (1, [4, 2, 3, 7, 5]), (0, [4, 2, 3, 5, 1])] := rfl
@[go_sem] theorem ann178_head : ann178.head = [] := rfl
def ann179 : Ann := ⟨[1], [], [(7, [2]), (6, [9, 3, 7, 8]), (5, [3, 7, 8, 9]), (4, [7, 8, 9, 5, 3]), (3, [7, 8, 9, 3, 10]), (2, [9, 3, 7, 8]), (1, [3, 1]), (0, [1])], [(3, [9, 3, 7, 8])]⟩
@[go_sem] theorem ann179_imm : ann179.imm = [1] := rfl
@[go_sem] theorem ann179_frz : ann179.frz = [] := rfl
@[go_sem] theorem ann179_live : ann179.live = [(7, [2]), (6, [9, 3, 7, 8]), (5, [3, 7, 8, 9]), (4, [7, 8, 9, 5, 3]), (3, [7, 8, 9, 3, 10]), (2, [9, 3, 7, 8]), (1, [3, 1]), (0, [1])] := rfl
@[go_sem] theorem ann179_head : ann179.head = [(3, [9, 3, 7, 8])] := rfl
def ann180 : Ann := ⟨[1], [], [(17, [2]), (16, [2]), (15, [1, 95]), (14, [2]), (13, [1, 69]), (12, [1, 3]), (11, [2]), (10, [1, 44]), (9, [2]), (8, [1, 25]), (5, [2]), (4, [1, 14]), (7, [1, 15]), (6, [1, 15, 11]), (3, [1, 11]), (2, [2]), (1, [1, 9]), (0, [1])], []⟩
@[go_sem] theorem ann180_imm : ann180.imm = [1] := rfl
@[go_sem] theorem ann180_frz : ann180.frz = [] := rfl
@[go_sem] theorem ann180_live : ann180.live = [(17, [2]), (16, [2]), (15, [1, 95]), (14, [2]), (13, [1, 69]), (12, [1, 3]), (11, [2]), (10, [1, 44]), (9, [2]), (8, [1, 25]), (5, [2]), (4, [1, 14]), (7, [1, 15]), (6, [1, 15, 11]), (3, [1, 11]), (2, [2]), (1, [1, 9]), (0, [1])] := rfl
@[go_sem] theorem ann180_head : ann180.head = [] := rfl
def ann182 : Ann := ⟨[1], [], [(4, [2]), (3, [1, 3]), (2, [2]), (1, [1, 34]), (0, [1])], []⟩
@[go_sem] theorem ann182_imm : ann182.imm = [1] := rfl
@[go_sem] theorem ann182_frz : ann182.frz = [] := rfl
@[go_sem] theorem ann182_live : ann182.live = [(4, [2]), (3, [1, 3]), (2, [2]), (1, [1, 34]), (0, [1])] := rfl
@[go_sem] theorem ann182_head : ann182.head = [] := rfl
def ann187 : Ann := ⟨[3], [], [(2, []), (1, [2, 1, 3, 13]), (0, [2, 1, 3])], []⟩
@[go_sem] theorem ann187_imm : ann187.imm = [3] := rfl
@[go_sem] theorem ann187_frz : ann187.frz = [] := rfl
@[go_sem] theorem ann187_live : ann187.live = [(2, []), (1, [2, 1, 3, 13]), (0, [2, 1, 3])] := rfl
@[go_sem] theorem ann187_head : ann187.head = [] := rfl
def ann188 : Ann := ⟨[], [], [(1, []), (0, [2, 0])], []⟩
@[go_sem] theorem ann188_imm : ann188.imm = [] := rfl
@[go_sem] theorem ann188_frz : ann188.frz = [] := rfl
@[go_sem] theorem ann188_live : ann188.live = [(1, []), (0, [2, 0])] := rfl
@[go_sem] theorem ann188_head : ann188.head = [] := rfl
def ann189 : Ann := ⟨[], [], [(16, [2]), (5, [3, 0]), (15, [2]), (14, [3, 0]), (10, [5, 3, 4, 0]), (13, [3, 4, 0, 5]), (12, [4, 0, 5, 3]), (11, [4, 0, 5, 3, 44]), (9, [4, 0, 5, 3, 32]), (8, [5, 3, 4, 0]), (7, [3, 4, 0]), (6, [3, 0, 25]), (4, [3, 0, 13]), (3, [3, 0]), (2, [2]), (1, [0, 8]), (0, [0])], [(9, [5, 3, 4, 0]), (4, [3, 0])]⟩
@[go_sem] theorem ann189_imm : ann189.imm = [] := rfl
@[go_sem] theorem ann189_frz : ann189.frz = [] := rfl
@[go_sem] theorem ann189_live : ann189.live = [(16, [2]), (5, [3, 0]), (15, [2]), (14, [3, 0]), (10, [5, 3, 4, 0]), (13, [3, 4, 0, 5]), (12, [4, 0, 5, 3]), (11, [4, 0, 5, 3, 44]), (9, [4, 0, 5, 3, 32]), (8, [5, 3, 4, 0]), (7, [3, 4, 0]), (6, [3, 0, 25]), (4, [3, 0, 13]), (3, [3, 0]), (2, [2]), (1, [0, 8]), (0, [0])] := rfl
@[go_sem] theorem ann189_head : ann189.head = [(9, [5, 3, 4, 0]), (4, [3, 0])] := rfl
def ann190 : Ann := ⟨[3, 36], [], [(7, [5]), (6, [5, 6, 2, 7]), (3, [5]), (5, [5]), (4, [5, 2, 3, 6, 1, 22]), (2, [5, 3, 2, 6, 1, 12]), (1, [5, 3, 2, 6, 1]), (0, [5, 3, 2, 1])], []⟩
@[go_sem] theorem ann190_imm : ann190.imm = [3, 36] := rfl
@[go_sem] theorem ann190_frz : ann190.frz = [] := rfl
@[go_sem] theorem ann190_live : ann190.live = [(7, [5]), (6, [5, 6, 2, 7]), (3, [5]), (5, [5]), (4, [5, 2, 3, 6, 1, 22]), (2, [5, 3, 2, 6, 1, 12]), (1, [5, 3, 2, 6, 1]), (0, [5, 3, 2, 1])] := rfl
@[go_sem] theorem ann190_head : ann190.head = [] := rfl
def ann191 : Ann := ⟨[4], [], [(17, [6]), (16, [72, 8, 2, 0, 70, 6, 71]), (15, [8, 2, 0, 70, 6, 71, 72]), (14, [8, 2, 0, 70, 6, 71, 72, 10]), (13, [8, 2, 0, 70, 6, 71, 72, 73]), (12, [72, 8, 2, 0, 70, 6, 71]), (11, [8, 2, 0, 6, 4]), (10, [8, 0, 6, 4, 2, 66]), (9, [8, 0, 6, 4, 2]), (8, [0, 6, 4, 2]), (7, [6]), (6, [6, 7]), (5, [6, 7, 0]), (4, [6, 0, 2, 4, 27]), (3, [6]), (2, [6]), (1, [6, 0, 2, 4, 15]), (0, [6, 0, 2, 4])], [(13, [72, 8, 2, 0, 70, 6, 71])]⟩
@[go_sem] theorem ann191_imm : ann191.imm = [4] := rfl
@[go_sem] theorem ann191_frz : ann191.frz = [] := rfl
@[go_sem] theorem ann191_live : ann191.live = [(17, [6]), (16, [72, 8, 2, 0, 70, 6, 71]), (15, [8, 2, 0, 70, 6, 71, 72]), (14, [8, 2, 0, 70, 6, 71, 72, 10]), (13, [8, 2, 0, 70, 6, 71, 72, 73]), (12, [72, 8, 2, 0, 70, 6, 71]), (11, [8, 2, 0, 6, 4]), (10, [8, 0, 6, 4, 2, 66]), (9, [8, 0, 6, 4, 2]), (8, [0, 6, 4, 2]), (7, [6]), (6, [6, 7]), (5, [6, 7, 0]), (4, [6, 0, 2, 4, 27]), (3, [6]), (2, [6]), (1, [6, 0, 2, 4, 15]), (0, [6, 0, 2, 4])] := rfl
@[go_sem] theorem ann191_head : ann191.head = [(13, [72, 8, 2, 0, 70, 6, 71])] := rfl
def ann192 : Ann := ⟨[], [], [(1, [2]), (0, [0])], []⟩
@[go_sem] theorem ann192_imm : ann192.imm = [] := rfl
@[go_sem] theorem ann192_frz : ann192.frz = [] := rfl
@[go_sem] theorem ann192_live : ann192.live = [(1, [2]), (0, [0])] := rfl
@[go_sem] theorem ann192_head : ann192.head = [] := rfl
def ann193 : Ann := ⟨[1], [], [(1, [2]), (0, [1])], []⟩
@[go_sem] theorem ann193_imm : ann193.imm = [1] := rfl
@[go_sem] theorem ann193_frz : ann193.frz = [] := rfl
@[go_sem] theorem ann193_live : ann193.live = [(1, [2]), (0, [1])] := rfl
@[go_sem] theorem ann193_head : ann193.head = [] := rfl
def ann194 : Ann := ⟨[], [], [(10, [6]), (9, [17, 2, 1, 15, 16]), (8, [6]), (7, [2, 1, 15, 16, 17, 30]), (6, [2, 1, 15, 16, 17, 9, 8]), (5, [2, 1, 15, 16, 17, 8, 7]), (4, [2, 1, 15, 16, 17, 18]), (3, [17, 2, 1, 15, 16]), (2, [6]), (1, [2, 1, 0, 14]), (0, [2, 1, 0])], [(4, [17, 2, 1, 15, 16])]⟩
@[go_sem] theorem ann194_imm : ann194.imm = [] := rfl
@[go_sem] theorem ann194_frz : ann194.frz = [] := rfl
@[go_sem] theorem ann194_live : ann194.live = [(10, [6]), (9, [17, 2, 1, 15, 16]), (8, [6]), (7, [2, 1, 15, 16, 17, 30]), (6, [2, 1, 15, 16, 17, 9, 8]), (5, [2, 1, 15, 16, 17, 8, 7]), (4, [2, 1, 15, 16, 17, 18]), (3, [17, 2, 1, 15, 16]), (2, [6]), (1, [2, 1, 0, 14]), (0, [2, 1, 0])] := rfl
@[go_sem] theorem ann194_head : ann194.head = [(4, [17, 2, 1, 15, 16])] := rfl
def ann196 : Ann := ⟨[], [], [(2, [2]), (1, [2]), (0, [0])], []⟩
@[go_sem] theorem ann196_imm : ann196.imm = [] := rfl
@[go_sem] theorem ann196_frz : ann196.frz = [] := rfl
@[go_sem] theorem ann196_live : ann196.live = [(2, [2]), (1, [2]), (0, [0])] := rfl
@[go_sem] theorem ann196_head : ann196.head = [] := rfl
def ann199 : Ann := ⟨[], [], [(3, [2]), (2, [7, 3, 0, 5]), (1, [3, 0, 5, 4]), (0, [0])], []⟩
@[go_sem] theorem ann199_imm : ann199.imm = [] := rfl
@[go_sem] theorem ann199_frz : ann199.frz = [] := rfl
@[go_sem] theorem ann199_live : ann199.live = [(3, [2]), (2, [7, 3, 0, 5]), (1, [3, 0, 5, 4]), (0, [0])] := rfl
@[go_sem] theorem ann199_head : ann199.head = [] := rfl
def ann200 : Ann := ⟨[4], [], [(3, [6]), (2, [6]), (1, [6, 3, 4, 17]), (0, [6, 3, 4, 2, 1])], []⟩
@[go_sem] theorem ann200_imm : ann200.imm = [4] := rfl
@[go_sem] theorem ann200_frz : ann200.frz = [] := rfl
@[go_sem] theorem ann200_live : ann200.live = [(3, [6]), (2, [6]), (1, [6, 3, 4, 17]), (0, [6, 3, 4, 2, 1])] := rfl
@[go_sem] theorem ann200_head : ann200.head = [] := rfl
def ann201 : Ann := ⟨[3], [], [(12, [6, 7]), (11, [34, 8, 2, 1, 32, 33]), (10, [8, 2, 1, 32, 33, 34]), (9, [6, 7]), (8, [2, 1, 32, 33, 34, 11, 8, 49]), (7, [2, 1, 32, 33, 34, 11, 8, 12]), (6, [2, 1, 32, 33, 34, 8, 10]), (5, [2, 1, 32, 33, 34, 8, 35]), (4, [34, 8, 2, 1, 32, 33]), (3, [8, 2, 1, 3]), (2, [6, 7]), (1, [2, 1, 3, 30]), (0, [2, 1, 3])], [(5, [34, 8, 2, 1, 32, 33])]⟩
@[go_sem] theorem ann201_imm : ann201.imm = [3] := rfl
@[go_sem] theorem ann201_frz : ann201.frz = [] := rfl
@[go_sem] theorem ann201_live : ann201.live = [(12, [6, 7]), (11, [34, 8, 2, 1, 32, 33]), (10, [8, 2, 1, 32, 33, 34]), (9, [6, 7]), (8, [2, 1, 32, 33, 34, 11, 8, 49]), (7, [2, 1, 32, 33, 34, 11, 8, 12]), (6, [2, 1, 32, 33, 34, 8, 10]), (5, [2, 1, 32, 33, 34, 8, 35]), (4, [34, 8, 2, 1, 32, 33]), (3, [8, 2, 1, 3]), (2, [6, 7]), (1, [2, 1, 3, 30]), (0, [2, 1, 3])] := rfl
@[go_sem] theorem ann201_head : ann201.head = [(5, [34, 8, 2, 1, 32, 33])] := rfl
def ann202 : Ann := ⟨[3], [], [(8, [6]), (6, [8, 2, 7, 1, 3]), (7, [2, 7, 1, 3, 8]), (5, [2, 1, 3, 8, 7, 21]), (4, [8, 2, 7, 1, 3]), (3, [2, 7, 1, 3]), (2, [6]), (1, [1, 2, 3, 10]), (0, [1, 2, 3])], [(5, [8, 2, 7, 1, 3])]⟩
@[go_sem] theorem ann202_imm : ann202.imm = [3] := rfl
@[go_sem] theorem ann202_frz : ann202.frz = [] := rfl
@[go_sem] theorem ann202_live : ann202.live = [(8, [6]), (6, [8, 2, 7, 1, 3]), (7, [2, 7, 1, 3, 8]), (5, [2, 1, 3, 8, 7, 21]), (4, [8, 2, 7, 1, 3]), (3, [2, 7, 1, 3]), (2, [6]), (1, [1, 2, 3, 10]), (0, [1, 2, 3])] := rfl
@[go_sem] theorem ann202_head : ann202.head = [(5, [8, 2, 7, 1, 3])] := rfl
def ann203 : Ann := ⟨[1], [], [(15, [2]), (14, [2]), (13, [1, 94]), (12, [2]), (11, [1, 86]), (8, [2]), (7, [1, 64]), (10, [2]), (9, [1, 67]), (6, [1, 56]), (5, [2]), (4, [1, 48]), (3, [1, 3]), (2, [2]), (1, [1, 11]), (0, [1])], []⟩
@[go_sem] theorem ann203_imm : ann203.imm = [1] := rfl
@[go_sem] theorem ann203_frz : ann203.frz = [] := rfl
@[go_sem] theorem ann203_live : ann203.live = [(15, [2]), (14, [2]), (13, [1, 94]), (12, [2]), (11, [1, 86]), (8, [2]), (7, [1, 64]), (10, [2]), (9, [1, 67]), (6, [1, 56]), (5, [2]), (4, [1, 48]), (3, [1, 3]), (2, [2]), (1, [1, 11]), (0, [1])] := rfl
@[go_sem] theorem ann203_head : ann203.head = [] := rfl
def ann204 : Ann := ⟨[], [], [(1, [2]), (0, [0])], []⟩
@[go_sem] theorem ann204_imm : ann204.imm = [] := rfl
@[go_sem] theorem ann204_frz : ann204.frz = [] := rfl
@[go_sem] theorem ann204_live : ann204.live = [(1, [2]), (0, [0])] := rfl
@[go_sem] theorem ann204_head : ann204.head = [] := rfl
def ann205 : Ann := ⟨[], [], [(1, [2]), (0, [0])], []⟩
@[go_sem] theorem ann205_imm : ann205.imm = [] := rfl
@[go_sem] theorem ann205_frz : ann205.frz = [] := rfl
@[go_sem] theorem ann205_live : ann205.live = [(1, [2]), (0, [0])] := rfl
@[go_sem] theorem ann205_head : ann205.head = [] := rfl
def ann206 : Ann := ⟨[], [], [(1, [2]), (0, [0])], []⟩
@[go_sem] theorem ann206_imm : ann206.imm = [] := rfl
@[go_sem] theorem ann206_frz : ann206.frz = [] := rfl
@[go_sem] theorem ann206_live : ann206.live = [(1, [2]), (0, [0])] := rfl
@[go_sem] theorem ann206_head : ann206.head = [] := rfl
def ann210 : Ann := ⟨[2], [], [(3, [4]), (2, [4]), (1, [1, 7]), (0, [1, 2])], []⟩
@[go_sem] theorem ann210_imm : ann210.imm = [2] := rfl
@[go_sem] theorem ann210_frz : ann210.frz = [] := rfl
@[go_sem] theorem ann210_live : ann210.live = [(3, [4]), (2, [4]), (1, [1, 7]), (0, [1, 2])] := rfl
@[go_sem] theorem ann210_head : ann210.head = [] := rfl
def ann211 : Ann := ⟨[2], [], [(1, [4]), (0, [4, 1, 2])], []⟩
@[go_sem] theorem ann211_imm : ann211.imm = [2] := rfl
@[go_sem] theorem ann211_frz : ann211.frz = [] := rfl
@[go_sem] theorem ann211_live : ann211.live = [(1, [4]), (0, [4, 1, 2])] := rfl
@[go_sem] theorem ann211_head : ann211.head = [] := rfl
def ann212 : Ann := ⟨[3], [], [(12, [6]), (10, [8, 2, 3, 1, 7, 6]), (11, [2, 3, 1, 7, 6, 8]), (9, [2, 3, 1, 6, 8, 7, 43]), (8, [8, 2, 3, 1, 7, 6]), (7, [2, 3, 1, 7, 6]), (6, [6]), (5, [6]), (4, [6, 2, 3, 1, 23]), (3, [6]), (2, [6, 3, 2, 1, 15]), (1, [6, 3, 2, 1, 11]), (0, [6, 3, 2, 1])], [(9, [8, 2, 3, 1, 7, 6])]⟩
@[go_sem] theorem ann212_imm : ann212.imm = [3] := rfl
@[go_sem] theorem ann212_frz : ann212.frz = [] := rfl
@[go_sem] theorem ann212_live : ann212.live = [(12, [6]), (10, [8, 2, 3, 1, 7, 6]), (11, [2, 3, 1, 7, 6, 8]), (9, [2, 3, 1, 6, 8, 7, 43]), (8, [8, 2, 3, 1, 7, 6]), (7, [2, 3, 1, 7, 6]), (6, [6]), (5, [6]), (4, [6, 2, 3, 1, 23]), (3, [6]), (2, [6, 3, 2, 1, 15]), (1, [6, 3, 2, 1, 11]), (0, [6, 3, 2, 1])] := rfl
@[go_sem] theorem ann212_head : ann212.head = [(9, [8, 2, 3, 1, 7, 6])] := rfl
def ann213 : Ann := ⟨[1], [], [(1, [2]), (0, [1])], []⟩
@[go_sem] theorem ann213_imm : ann213.imm = [1] := rfl
@[go_sem] theorem ann213_frz : ann213.frz = [] := rfl
@[go_sem] theorem ann213_live : ann213.live = [(1, [2]), (0, [1])] := rfl
@[go_sem] theorem ann213_head : ann213.head = [] := rfl
def ann215 : Ann := ⟨[1], [], [(10, [2]), (3, [2]), (5, [2]), (7, [2]), (9, [2]), (8, [1, 40]), (6, [1, 4, 25]), (4, [1, 4, 15]), (2, [1, 4, 5]), (1, [1, 4]), (0, [1])], []⟩
@[go_sem] theorem ann215_imm : ann215.imm = [1] := rfl
@[go_sem] theorem ann215_frz : ann215.frz = [] := rfl
@[go_sem] theorem ann215_live : ann215.live = [(10, [2]), (3, [2]), (5, [2]), (7, [2]), (9, [2]), (8, [1, 40]), (6, [1, 4, 25]), (4, [1, 4, 15]), (2, [1, 4, 5]), (1, [1, 4]), (0, [1])] := rfl
@[go_sem] theorem ann215_head : ann215.head = [] := rfl
def ann216 : Ann := ⟨[1], [], [(7, [2]), (3, [2]), (6, [2]), (5, [1, 11]), (4, [1, 11, 4]), (2, [1, 4, 5]), (1, [1, 4]), (0, [1])], []⟩
@[go_sem] theorem ann216_imm : ann216.imm = [1] := rfl
@[go_sem] theorem ann216_frz : ann216.frz = [] := rfl
@[go_sem] theorem ann216_live : ann216.live = [(7, [2]), (3, [2]), (6, [2]), (5, [1, 11]), (4, [1, 11, 4]), (2, [1, 4, 5]), (1, [1, 4]), (0, [1])] := rfl
@[go_sem] theorem ann216_head : ann216.head = [] := rfl
def ann217 : Ann := ⟨[], [], [(6, [2]), (3, [3, 0]), (5, [2]), (4, [0, 3, 15]), (2, [0, 3, 7]), (1, [3, 0]), (0, [0])], [(2, [3, 0])]⟩
@[go_sem] theorem ann217_imm : ann217.imm = [] := rfl
@[go_sem] theorem ann217_frz : ann217.frz = [] := rfl
@[go_sem] theorem ann217_live : ann217.live = [(6, [2]), (3, [3, 0]), (5, [2]), (4, [0, 3, 15]), (2, [0, 3, 7]), (1, [3, 0]), (0, [0])] := rfl
@[go_sem] theorem ann217_head : ann217.head = [(2, [3, 0])] := rfl
def ann218 : Ann := ⟨[], [], [(21, [2]), (6, [2]), (16, [2]), (20, [2]), (19, [19]), (18, [19, 3]), (17, [19, 3]), (15, [3, 9]), (14, [3, 9]), (13, [3, 9]), (12, [3, 9]), (11, [3, 9]), (10, [3, 9]), (9, [3, 9]), (8, [3, 9]), (7, [3, 9]), (5, [3, 4]), (4, [3, 4]), (3, [3, 4]), (2, [3, 4]), (1, [3]), (0, [0])], []⟩
@[go_sem] theorem ann218_imm : ann218.imm = [] := rfl
@[go_sem] theorem ann218_frz : ann218.frz = [] := rfl
@[go_sem] theorem ann218_live : ann218.live = [(21, [2]), (6, [2]), (16, [2]), (20, [2]), (19, [19]), (18, [19, 3]), (17, [19, 3]), (15, [3, 9]), (14, [3, 9]), (13, [3, 9]), (12, [3, 9]), (11, [3, 9]), (10, [3, 9]), (9, [3, 9]), (8, [3, 9]), (7, [3, 9]), (5, [3, 4]), (4, [3, 4]), (3, [3, 4]), (2, [3, 4]), (1, [3]), (0, [0])] := rfl
@[go_sem] theorem ann218_head : ann218.head = [] := rfl
def ann219 : Ann := ⟨[1], [], [(1, [2]), (0, [1])], []⟩
@[go_sem] theorem ann219_imm : ann219.imm = [1] := rfl
@[go_sem] theorem ann219_frz : ann219.frz = [] := rfl
@[go_sem] theorem ann219_live : ann219.live = [(1, [2]), (0, [1])] := rfl
@[go_sem] theorem ann219_head : ann219.head = [] := rfl
def ann220 : Ann := ⟨[1], [], [(1, [2]), (0, [1])], []⟩
@[go_sem] theorem ann220_imm : ann220.imm = [1] := rfl
@[go_sem] theorem ann220_frz : ann220.frz = [] := rfl
@[go_sem] theorem ann220_live : ann220.live = [(1, [2]), (0, [1])] := rfl
@[go_sem] theorem ann220_head : ann220.head = [] := rfl
def ann222 : Ann := ⟨[3], [], [(11, [6]), (9, [8, 2, 3, 1, 7, 6]), (10, [2, 3, 1, 7, 6, 8]), (8, [2, 3, 1, 6, 8, 7, 28]), (7, [8, 2, 3, 1, 7, 6]), (6, [2, 3, 1, 7, 6]), (5, [6]), (4, [6]), (3, [6, 1, 3, 17]), (2, [6, 1, 3, 2, 13]), (1, [6, 1, 3, 2]), (0, [6, 1, 3, 2])], [(8, [8, 2, 3, 1, 7, 6])]⟩
@[go_sem] theorem ann222_imm : ann222.imm = [3] := rfl
@[go_sem] theorem ann222_frz : ann222.frz = [] := rfl
@[go_sem] theorem ann222_live : ann222.live = [(11, [6]), (9, [8, 2, 3, 1, 7, 6]), (10, [2, 3, 1, 7, 6, 8]), (8, [2, 3, 1, 6, 8, 7, 28]), (7, [8, 2, 3, 1, 7, 6]), (6, [2, 3, 1, 7, 6]), (5, [6]), (4, [6]), (3, [6, 1, 3, 17]), (2, [6, 1, 3, 2, 13]), (1, [6, 1, 3, 2]), (0, [6, 1, 3, 2])] := rfl
@[go_sem] theorem ann222_head : ann222.head = [(8, [8, 2, 3, 1, 7, 6])] := rfl
def ann223 : Ann := ⟨[1], [], [(9, [2]), (2, [2]), (4, [2]), (6, [2]), (8, [2]), (7, [21]), (5, [1, 18]), (3, [1, 12]), (1, [1, 3]), (0, [1])], []⟩
@[go_sem] theorem ann223_imm : ann223.imm = [1] := rfl
@[go_sem] theorem ann223_frz : ann223.frz = [] := rfl
@[go_sem] theorem ann223_live : ann223.live = [(9, [2]), (2, [2]), (4, [2]), (6, [2]), (8, [2]), (7, [21]), (5, [1, 18]), (3, [1, 12]), (1, [1, 3]), (0, [1])] := rfl
@[go_sem] theorem ann223_head : ann223.head = [] := rfl
def ann224 : Ann := ⟨[1], [], [(1, [2]), (0, [1])], []⟩
@[go_sem] theorem ann224_imm : ann224.imm = [1] := rfl
@[go_sem] theorem ann224_frz : ann224.frz = [] := rfl
@[go_sem] theorem ann224_live : ann224.live = [(1, [2]), (0, [1])] := rfl
@[go_sem] theorem ann224_head : ann224.head = [] := rfl
def ann225 : Ann := ⟨[], [], [(6, [2]), (3, [3, 0]), (5, [2]), (4, [0, 3, 19]), (2, [0, 3, 7]), (1, [3, 0]), (0, [0])], [(2, [3, 0])]⟩
@[go_sem] theorem ann225_imm : ann225.imm = [] := rfl
@[go_sem] theorem ann225_frz : ann225.frz = [] := rfl
@[go_sem] theorem ann225_live : ann225.live = [(6, [2]), (3, [3, 0]), (5, [2]), (4, [0, 3, 19]), (2, [0, 3, 7]), (1, [3, 0]), (0, [0])] := rfl
@[go_sem] theorem ann225_head : ann225.head = [(2, [3, 0])] := rfl
def ann226 : Ann := ⟨[], [], [(1, [2]), (0, [0])], []⟩
@[go_sem] theorem ann226_imm : ann226.imm = [] := rfl
@[go_sem] theorem ann226_frz : ann226.frz = [] := rfl
@[go_sem] theorem ann226_live : ann226.live = [(1, [2]), (0, [0])] := rfl
@[go_sem] theorem ann226_head : ann226.head = [] := rfl
def ann227 : Ann := ⟨[], [], [(9, [2]), (8, [15, 13, 14]), (7, [2]), (6, [13, 14, 15, 21]), (5, [13, 14, 15, 4]), (4, [13, 14, 15, 16]), (3, [15, 13, 14]), (2, [2]), (1, [0, 11]), (0, [0])], [(4, [15, 13, 14])]⟩
@[go_sem] theorem ann227_imm : ann227.imm = [] := rfl
@[go_sem] theorem ann227_frz : ann227.frz = [] := rfl
@[go_sem] theorem ann227_live : ann227.live = [(9, [2]), (8, [15, 13, 14]), (7, [2]), (6, [13, 14, 15, 21]), (5, [13, 14, 15, 4]), (4, [13, 14, 15, 16]), (3, [15, 13, 14]), (2, [2]), (1, [0, 11]), (0, [0])] := rfl
@[go_sem] theorem ann227_head : ann227.head = [(4, [15, 13, 14])] := rfl
def ann228 : Ann := ⟨[1], [], [(1, [2]), (0, [1])], []⟩
@[go_sem] theorem ann228_imm : ann228.imm = [1] := rfl
@[go_sem] theorem ann228_frz : ann228.frz = [] := rfl
@[go_sem] theorem ann228_live : ann228.live = [(1, [2]), (0, [1])] := rfl
@[go_sem] theorem ann228_head : ann228.head = [] := rfl
def ann229 : Ann := ⟨[1], [], [(10, [2]), (3, [2]), (5, [2]), (7, [2]), (9, [2]), (8, [1, 35]), (6, [1, 4, 25]), (4, [1, 4, 15]), (2, [1, 4, 5]), (1, [1, 4]), (0, [1])], []⟩
@[go_sem] theorem ann229_imm : ann229.imm = [1] := rfl
@[go_sem] theorem ann229_frz : ann229.frz = [] := rfl
@[go_sem] theorem ann229_live : ann229.live = [(10, [2]), (3, [2]), (5, [2]), (7, [2]), (9, [2]), (8, [1, 35]), (6, [1, 4, 25]), (4, [1, 4, 15]), (2, [1, 4, 5]), (1, [1, 4]), (0, [1])] := rfl
@[go_sem] theorem ann229_head : ann229.head = [] := rfl
def ann230 : Ann := ⟨[1], [], [(27, [2]), (6, [2]), (16, [2]), (20, [2]), (22, [2]), (24, [2]), (26, [2]), (25, [1, 35]), (23, [1, 4, 29]), (21, [1, 4, 24]), (19, [1, 4, 20]), (18, [1, 4, 20]), (17, [1, 4, 20]), (15, [1, 4, 10]), (14, [1, 4, 10]), (13, [1, 4, 10]), (12, [1, 4, 10]), (11, [1, 4, 10]), (10, [1, 4, 10]), (9, [1, 4, 10]), (8, [1, 4, 10]), (7, [1, 4, 10]), (5, [1, 4, 5]), (4, [1, 4, 5]), (3, [1, 4, 5]), (2, [1, 4, 5]), (1, [1, 4]), (0, [1])], []⟩
@[go_sem] theorem ann230_imm : ann230.imm = [1] := rfl
@[go_sem] theorem ann230_frz : ann230.frz = [] := rfl
@[go_sem] theorem ann230_live : ann230.live = [(27, [2]), (6, [2]), (16, [2]), (20, [2]), (22, [2]), (24, [2]), (26, [2]), (25, [1, 35]), (23, [1, 4, 29]), (21, [1, 4, 24]), (19, [1, 4, 20]), (18, [1, 4, 20]), (17, [1, 4, 20]), (15, [1, 4, 10]), (14, [1, 4, 10]), (13, [1, 4, 10]), (12, [1, 4, 10]), (11, [1, 4, 10]), (10, [1, 4, 10]), (9, [1, 4, 10]), (8, [1, 4, 10]), (7, [1, 4, 10]), (5, [1, 4, 5]), (4, [1, 4, 5]), (3, [1, 4, 5]), (2, [1, 4, 5]), (1, [1, 4]), (0, [1])] := rfl
@[go_sem] theorem ann230_head : ann230.head = [] := rfl
def ann231 : Ann := ⟨[1], [], [(7, [2]), (3, [2]), (6, [2]), (5, [1, 11]), (4, [1, 11, 4]), (2, [1, 4, 5]), (1, [1, 4]), (0, [1])], []⟩
@[go_sem] theorem ann231_imm : ann231.imm = [1] := rfl
@[go_sem] theorem ann231_frz : ann231.frz = [] := rfl
@[go_sem] theorem ann231_live : ann231.live = [(7, [2]), (3, [2]), (6, [2]), (5, [1, 11]), (4, [1, 11, 4]), (2, [1, 4, 5]), (1, [1, 4]), (0, [1])] := rfl
@[go_sem] theorem ann231_head : ann231.head = [] := rfl
def ann232 : Ann := ⟨[1], [], [(5, [2]), (2, [2]), (4, [2]), (3, [1, 16]), (1, [1, 3]), (0, [1])], []⟩
@[go_sem] theorem ann232_imm : ann232.imm = [1] := rfl
@[go_sem] theorem ann232_frz : ann232.frz = [] := rfl
@[go_sem] theorem ann232_live : ann232.live = [(5, [2]), (2, [2]), (4, [2]), (3, [1, 16]), (1, [1, 3]), (0, [1])] := rfl
@[go_sem] theorem ann232_head : ann232.head = [] := rfl
def ann233 : Ann := ⟨[2], [], [(3, [4]), (2, [4]), (1, [2, 5]), (0, [2, 1])], []⟩
@[go_sem] theorem ann233_imm : ann233.imm = [2] := rfl
@[go_sem] theorem ann233_frz : ann233.frz = [] := rfl
@[go_sem] theorem ann233_live : ann233.live = [(3, [4]), (2, [4]), (1, [2, 5]), (0, [2, 1])] := rfl
@[go_sem] theorem ann233_head : ann233.head = [] := rfl
def ann235 : Ann := ⟨[], [], [(27, [2, 1, 0, 9, 8, 3]), (26, [2, 0, 9, 8, 3, 14]), (25, [2, 0, 9, 8, 3, 14, 1]), (30, [2, 1, 0, 9, 8, 3]), (29, [1, 0, 9, 8, 3, 14]), (28, [1, 0, 9, 8, 3, 14, 2]), (24, [2, 0, 9, 3, 14, 1, 18, 16, 17, 113]), (23, [2, 0, 9, 3, 14, 1, 18, 16, 17]), (22, [2, 0, 9, 3, 14, 1, 16, 17, 10]), (21, [2, 0, 9, 3, 14, 1, 10]), (20, [2, 0, 3, 14, 1, 10, 15]), (19, [2, 1, 0, 9, 8, 3]), (18, [2, 0, 9, 8, 3, 13]), (17, [2, 0, 9, 8, 3, 11, 1, 10, 87]), (16, [2, 0, 9, 8, 3, 11, 1, 10, 72]), (15, [2, 0, 9, 8, 3, 11, 1, 10, 68]), (14, [2, 0, 9, 8, 3, 11, 1, 10, 12]), (13, [2, 0, 9, 8, 3, 11, 1, 10]), (12, [2, 0, 9, 8, 3, 1, 10, 11]), (11, [2, 0, 9, 8, 3, 1, 10, 11, 12, 50]), (10, [2, 0, 9, 8, 3, 1, 10, 11, 12]), (9, [2, 0, 9, 8, 3, 1, 10]), (8, [2, 0, 9, 8, 1, 10, 3]), (7, [2, 0, 9, 8, 1, 10, 3, 35]), (6, []), (5, [2, 1, 0, 9, 8, 10, 3, 29]), (4, []), (3, [2, 1, 0, 9, 8, 10, 3, 23]), (2, [2, 1, 0, 9, 8, 10, 3]), (1, [2, 1, 0, 9, 8, 3]), (0, [2, 1, 0, 8, 3])], [(1, [2, 1, 0, 9, 8, 3])]⟩
@[go_sem] theorem ann235_imm : ann235.imm = [] := rfl
@[go_sem] theorem ann235_frz : ann235.frz = [] := rfl
@[go_sem] theorem ann235_live : ann235.live = [(27, [2, 1, 0, 9, 8, 3]), (26, [2, 0, 9, 8, 3, 14]), (25, [2, 0, 9, 8, 3, 14, 1]), (30, [2, 1, 0, 9, 8, 3]), (29, [1, 0, 9, 8, 3, 14]), (28, [1, 0, 9, 8, 3, 14, 2]), (24, [2, 0, 9, 3, 14, 1, 18, 16, 17, 113]), (23, [2, 0, 9, 3, 14, 1, 18, 16, 17]), (22, [2, 0, 9, 3, 14, 1, 16, 17, 10]), (21, [2, 0, 9, 3, 14, 1, 10]), (20, [2, 0, 3, 14, 1, 10, 15]), (19, [2, 1, 0, 9, 8, 3]), (18, [2, 0, 9, 8, 3, 13]), (17, [2, 0, 9, 8, 3, 11, 1, 10, 87]), (16, [2, 0, 9, 8, 3, 11, 1, 10, 72]), (15, [2, 0, 9, 8, 3, 11, 1, 10, 68]), (14, [2, 0, 9, 8, 3, 11, 1, 10, 12]), (13, [2, 0, 9, 8, 3, 11, 1, 10]), (12, [2, 0, 9, 8, 3, 1, 10, 11]), (11, [2, 0, 9, 8, 3, 1, 10, 11, 12, 50]), (10, [2, 0, 9, 8, 3, 1, 10, 11, 12]), (9, [2, 0, 9, 8, 3, 1, 10]), (8, [2, 0, 9, 8, 1, 10, 3]), (7, [2, 0, 9, 8, 1, 10, 3, 35]), (6, []), (5, [2, 1, 0, 9, 8, 10, 3, 29]), (4, []), (3, [2, 1, 0, 9, 8, 10, 3, 23]), (2, [2, 1, 0, 9, 8, 10, 3]), (1, [2, 1, 0, 9, 8, 3]), (0, [2, 1, 0, 8, 3])] := rfl
@[go_sem] theorem ann235_head : ann235.head = [(1, [2, 1, 0, 9, 8, 3])] := rfl
def ann246 : Ann := ⟨[], [], [(1, [4, 5, 6]), (0, [1, 0])], []⟩
@[go_sem] theorem ann246_imm : ann246.imm = [] := rfl
@[go_sem] theorem ann246_frz : ann246.frz = [] := rfl
@[go_sem] theorem ann246_live : ann246.live = [(1, [4, 5, 6]), (0, [1, 0])] := rfl
@[go_sem] theorem ann246_head : ann246.head = [] := rfl
def ann247 : Ann := ⟨[], [], [(12, [2, 3]), (11, [2, 3]), (10, [6, 41]), (9, [6, 7]), (8, [23, 21, 0, 22]), (7, [2, 3]), (6, [21, 0, 22, 23, 29]), (5, [21, 0, 22, 23, 5]), (4, [21, 0, 22, 23, 24]), (3, [23, 21, 0, 22]), (2, [2, 3]), (1, [0, 19]), (0, [0])], [(4, [23, 21, 0, 22])]⟩
@[go_sem] theorem ann247_imm : ann247.imm = [] := rfl
@[go_sem] theorem ann247_frz : ann247.frz = [] := rfl
@[go_sem] theorem ann247_live : ann247.live = [(12, [2, 3]), (11, [2, 3]), (10, [6, 41]), (9, [6, 7]), (8, [23, 21, 0, 22]), (7, [2, 3]), (6, [21, 0, 22, 23, 29]), (5, [21, 0, 22, 23, 5]), (4, [21, 0, 22, 23, 24]), (3, [23, 21, 0, 22]), (2, [2, 3]), (1, [0, 19]), (0, [0])] := rfl
@[go_sem] theorem ann247_head : ann247.head = [(4, [23, 21, 0, 22])] := rfl
def ann248 : Ann := ⟨[], [], [(1, [2]), (0, [0])], []⟩
@[go_sem] theorem ann248_imm : ann248.imm = [] := rfl
@[go_sem] theorem ann248_frz : ann248.frz = [] := rfl
@[go_sem] theorem ann248_live : ann248.live = [(1, [2]), (0, [0])] := rfl
@[go_sem] theorem ann248_head : ann248.head = [] := rfl
def ann249 : Ann := ⟨[], [], [(7, [2]), (6, [2]), (5, [16]), (4, [2]), (3, [0, 14]), (2, [2]), (1, [0, 8]), (0, [0])], []⟩
@[go_sem] theorem ann249_imm : ann249.imm = [] := rfl
@[go_sem] theorem ann249_frz : ann249.frz = [] := rfl
@[go_sem] theorem ann249_live : ann249.live = [(7, [2]), (6, [2]), (5, [16]), (4, [2]), (3, [0, 14]), (2, [2]), (1, [0, 8]), (0, [0])] := rfl
@[go_sem] theorem ann249_head : ann249.head = [] := rfl
def ann250 : Ann := ⟨[], [], [(6, [2]), (3, [3, 0]), (5, [2]), (4, [0, 3, 15]), (2, [0, 3, 7]), (1, [3, 0]), (0, [0])], [(2, [3, 0])]⟩
@[go_sem] theorem ann250_imm : ann250.imm = [] := rfl
@[go_sem] theorem ann250_frz : ann250.frz = [] := rfl
@[go_sem] theorem ann250_live : ann250.live = [(6, [2]), (3, [3, 0]), (5, [2]), (4, [0, 3, 15]), (2, [0, 3, 7]), (1, [3, 0]), (0, [0])] := rfl
@[go_sem] theorem ann250_head : ann250.head = [(2, [3, 0])] := rfl
def ann251 : Ann := ⟨[], [], [(1, [2]), (0, [0])], []⟩
@[go_sem] theorem ann251_imm : ann251.imm = [] := rfl
@[go_sem] theorem ann251_frz : ann251.frz = [] := rfl
@[go_sem] theorem ann251_live : ann251.live = [(1, [2]), (0, [0])] := rfl
@[go_sem] theorem ann251_head : ann251.head = [] := rfl
def ann252 : Ann := ⟨[], [], [(6, [2]), (3, [3, 0]), (5, [2]), (4, [0, 3, 14]), (2, [0, 3, 7]), (1, [3, 0]), (0, [0])], [(2, [3, 0])]⟩
@[go_sem] theorem ann252_imm : ann252.imm = [] := rfl
@[go_sem] theorem ann252_frz : ann252.frz = [] := rfl
@[go_sem] theorem ann252_live : ann252.live = [(6, [2]), (3, [3, 0]), (5, [2]), (4, [0, 3, 14]), (2, [0, 3, 7]), (1, [3, 0]), (0, [0])] := rfl
@[go_sem] theorem ann252_head : ann252.head = [(2, [3, 0])] := rfl
def ann262 : Ann := ⟨[], [], [(18, [2]), (6, [2]), (17, [2]), (16, [9]), (15, [9, 3]), (14, [9, 3]), (13, [9, 3]), (12, [9, 3]), (11, [9, 3]), (10, [9, 3]), (9, [9, 3]), (8, [9, 3]), (7, [9, 3]), (5, [3, 4]), (4, [3, 4]), (3, [3, 4]), (2, [3, 4]), (1, [3]), (0, [0])], []⟩
@[go_sem] theorem ann262_imm : ann262.imm = [] := rfl
@[go_sem] theorem ann262_frz : ann262.frz = [] := rfl
@[go_sem] theorem ann262_live : ann262.live = [(18, [2]), (6, [2]), (17, [2]), (16, [9]), (15, [9, 3]), (14, [9, 3]), (13, [9, 3]), (12, [9, 3]), (11, [9, 3]), (10, [9, 3]), (9, [9, 3]), (8, [9, 3]), (7, [9, 3]), (5, [3, 4]), (4, [3, 4]), (3, [3, 4]), (2, [3, 4]), (1, [3]), (0, [0])] := rfl
@[go_sem] theorem ann262_head : ann262.head = [] := rfl
def ann263 : Ann := ⟨[], [], [(6, [2]), (3, [3, 0]), (5, [2]), (4, [0, 3, 20]), (2, [0, 3, 7]), (1, [3, 0]), (0, [0])], [(2, [3, 0])]⟩
@[go_sem] theorem ann263_imm : ann263.imm = [] := rfl
@[go_sem] theorem ann263_frz : ann263.frz = [] := rfl
@[go_sem] theorem ann263_live : ann263.live = [(6, [2]), (3, [3, 0]), (5, [2]), (4, [0, 3, 20]), (2, [0, 3, 7]), (1, [3, 0]), (0, [0])] := rfl
@[go_sem] theorem ann263_head : ann263.head = [(2, [3, 0])] := rfl
def ann264 : Ann := ⟨[], [], [(6, [2]), (3, [3, 0]), (5, [2]), (4, [0, 3, 19]), (2, [0, 3, 7]), (1, [3, 0]), (0, [0])], [(2, [3, 0])]⟩
@[go_sem] theorem ann264_imm : ann264.imm = [] := rfl
@[go_sem] theorem ann264_frz : ann264.frz = [] := rfl
@[go_sem] theorem ann264_live : ann264.live = [(6, [2]), (3, [3, 0]), (5, [2]), (4, [0, 3, 19]), (2, [0, 3, 7]), (1, [3, 0]), (0, [0])] := rfl
@[go_sem] theorem ann264_head : ann264.head = [(2, [3, 0])] := rfl
def ann265 : Ann := ⟨[3], [], [(8, [6]), (6, [7, 2, 1, 3]), (7, [2, 1, 3, 7]), (5, [2, 3, 7, 1, 36]), (4, [7, 2, 1, 3]), (3, [2, 1, 3]), (2, [6]), (1, [2, 3, 1, 25]), (0, [2, 3, 1])], [(5, [7, 2, 1, 3])]⟩
@[go_sem] theorem ann265_imm : ann265.imm = [3] := rfl
@[go_sem] theorem ann265_frz : ann265.frz = [] := rfl
@[go_sem] theorem ann265_live : ann265.live = [(8, [6]), (6, [7, 2, 1, 3]), (7, [2, 1, 3, 7]), (5, [2, 3, 7, 1, 36]), (4, [7, 2, 1, 3]), (3, [2, 1, 3]), (2, [6]), (1, [2, 3, 1, 25]), (0, [2, 3, 1])] := rfl
@[go_sem] theorem ann265_head : ann265.head = [(5, [7, 2, 1, 3])] := rfl
def ann267 : Ann := ⟨[], [], [(11, [2]), (2, [2]), (4, [2]), (6, [2]), (8, [2]), (10, [2]), (9, [27]), (7, [0, 24]), (5, [0, 17]), (3, [0, 10]), (1, [0, 3]), (0, [0])], []⟩
@[go_sem] theorem ann267_imm : ann267.imm = [] := rfl
@[go_sem] theorem ann267_frz : ann267.frz = [] := rfl
@[go_sem] theorem ann267_live : ann267.live = [(11, [2]), (2, [2]), (4, [2]), (6, [2]), (8, [2]), (10, [2]), (9, [27]), (7, [0, 24]), (5, [0, 17]), (3, [0, 10]), (1, [0, 3]), (0, [0])] := rfl
@[go_sem] theorem ann267_head : ann267.head = [] := rfl
def ann268 : Ann := ⟨[], [], [(7, [2]), (6, [2]), (5, [4]), (4, [4, 3]), (3, [4, 3]), (2, [4, 3]), (1, [3]), (0, [0])], []⟩
@[go_sem] theorem ann268_imm : ann268.imm = [] := rfl
@[go_sem] theorem ann268_frz : ann268.frz = [] := rfl
@[go_sem] theorem ann268_live : ann268.live = [(7, [2]), (6, [2]), (5, [4]), (4, [4, 3]), (3, [4, 3]), (2, [4, 3]), (1, [3]), (0, [0])] := rfl
@[go_sem] theorem ann268_head : ann268.head = [] := rfl
def ann269 : Ann := ⟨[], [], [(1, [2]), (0, [0])], []⟩
@[go_sem] theorem ann269_imm : ann269.imm = [] := rfl
@[go_sem] theorem ann269_frz : ann269.frz = [] := rfl
@[go_sem] theorem ann269_live : ann269.live = [(1, [2]), (0, [0])] := rfl
@[go_sem] theorem ann269_head : ann269.head = [] := rfl
def ann270 : Ann := ⟨[1], [], [(1, [2]), (0, [1])], []⟩
@[go_sem] theorem ann270_imm : ann270.imm = [1] := rfl
@[go_sem] theorem ann270_frz : ann270.frz = [] := rfl
@[go_sem] theorem ann270_live : ann270.live = [(1, [2]), (0, [1])] := rfl
@[go_sem] theorem ann270_head : ann270.head = [] := rfl
def ann271 : Ann := ⟨[], [], [(2, [0, 6, 1, 2]), (5, [7, 0, 1, 2, 6]), (6, [0, 1, 2, 6, 7]), (4, [0, 1, 2, 6, 7, 30]), (3, [7, 0, 1, 2, 6]), (1, [0, 1, 2, 6, 12]), (0, [0, 6, 1, 2])], [(4, [7, 0, 1, 2, 6]), (1, [0, 6, 1, 2])]⟩
@[go_sem] theorem ann271_imm : ann271.imm = [] := rfl
@[go_sem] theorem ann271_frz : ann271.frz = [] := rfl
@[go_sem] theorem ann271_live : ann271.live = [(2, [0, 6, 1, 2]), (5, [7, 0, 1, 2, 6]), (6, [0, 1, 2, 6, 7]), (4, [0, 1, 2, 6, 7, 30]), (3, [7, 0, 1, 2, 6]), (1, [0, 1, 2, 6, 12]), (0, [0, 6, 1, 2])] := rfl
@[go_sem] theorem ann271_head : ann271.head = [(4, [7, 0, 1, 2, 6]), (1, [0, 6, 1, 2])] := rfl
def ann285 : Ann := ⟨[], [], [(4, [4, 5, 6]), (3, [4, 5, 6]), (2, [1, 7, 0, 12]), (1, [1, 7, 0]), (0, [1, 0])], []⟩
@[go_sem] theorem ann285_imm : ann285.imm = [] := rfl
@[go_sem] theorem ann285_frz : ann285.frz = [] := rfl
@[go_sem] theorem ann285_live : ann285.live = [(4, [4, 5, 6]), (3, [4, 5, 6]), (2, [1, 7, 0, 12]), (1, [1, 7, 0]), (0, [1, 0])] := rfl
@[go_sem] theorem ann285_head : ann285.head = [] := rfl
def ann287 : Ann := ⟨[], [], [(10, [4]), (9, [25, 23, 24]), (8, [4]), (7, [23, 24, 25, 36]), (6, [23, 24, 25, 7]), (5, [23, 24, 25, 6]), (4, [23, 24, 25, 26]), (3, [25, 23, 24]), (2, [4]), (1, [0, 21]), (0, [0, 1])], [(4, [25, 23, 24])]⟩
@[go_sem] theorem ann287_imm : ann287.imm = [] := rfl
@[go_sem] theorem ann287_frz : ann287.frz = [] := rfl
@[go_sem] theorem ann287_live : ann287.live = [(10, [4]), (9, [25, 23, 24]), (8, [4]), (7, [23, 24, 25, 36]), (6, [23, 24, 25, 7]), (5, [23, 24, 25, 6]), (4, [23, 24, 25, 26]), (3, [25, 23, 24]), (2, [4]), (1, [0, 21]), (0, [0, 1])] := rfl
@[go_sem] theorem ann287_head : ann287.head = [(4, [25, 23, 24])] := rfl
def ann288 : Ann := ⟨[], [], [(1, [2]), (0, [0])], []⟩
@[go_sem] theorem ann288_imm : ann288.imm = [] := rfl
@[go_sem] theorem ann288_frz : ann288.frz = [] := rfl
@[go_sem] theorem ann288_live : ann288.live = [(1, [2]), (0, [0])] := rfl
@[go_sem] theorem ann288_head : ann288.head = [] := rfl
def ann300 : Ann := ⟨[], [], [(1, [2]), (0, [0])], []⟩
@[go_sem] theorem ann300_imm : ann300.imm = [] := rfl
@[go_sem] theorem ann300_frz : ann300.frz = [] := rfl
@[go_sem] theorem ann300_live : ann300.live = [(1, [2]), (0, [0])] := rfl
@[go_sem] theorem ann300_head : ann300.head = [] := rfl
end Go.Abs.Kon
