/- Closed facts on the types and functions of this program, printed by a program and checked by the kernel. -/
import Derived.Test.YthbfnaaminlopaaGreatDoorVAbsC
import Derived.Test.YthbfnaaminlopaaGreatDoorProg
set_option linter.unusedSimpArgs false
set_option linter.unusedVariables false
namespace Go.Abs.Kon
open Go Go.Proofs Go.Abs
theorem mixed : Tryz.prog.follows .mixedOrders = true := by kernel_rfl
@[go_sem] theorem sz0 : szOf Tryz.prog 0 = some Sz.one := by kernel_rfl
@[go_sem] theorem eq0 : eqTOf Tryz.prog 0 = EqT.other := by kernel_rfl
@[go_sem] theorem cv0 : cvTOf Tryz.prog 0 = CvT.other := by kernel_rfl
@[go_sem] theorem sz1 : szOf Tryz.prog 1 = some Sz.one := by kernel_rfl
@[go_sem] theorem zo1 : zeroOf Tryz.prog 1 = some (Sz.one, SV.one (SC.pv PV.nilfn)) := by kernel_rfl
@[go_sem] theorem eq1 : eqTOf Tryz.prog 1 = EqT.other := by kernel_rfl
@[go_sem] theorem cv1 : cvTOf Tryz.prog 1 = CvT.other := by kernel_rfl
@[go_sem] theorem sz2 : szOf Tryz.prog 2 = some Sz.one := by kernel_rfl
@[go_sem] theorem zo2 : zeroOf Tryz.prog 2 = some (Sz.one, SV.one (SC.pv (PV.int IntKind.i64 0))) := by kernel_rfl
@[go_sem] theorem eq2 : eqTOf Tryz.prog 2 = EqT.other := by kernel_rfl
@[go_sem] theorem cv2 : cvTOf Tryz.prog 2 = CvT.int IntKind.i64 := by kernel_rfl
@[go_sem] theorem sz3 : szOf Tryz.prog 3 = some Sz.one := by kernel_rfl
@[go_sem] theorem zo3 : zeroOf Tryz.prog 3 = some (Sz.one, SV.one (SC.pv (PV.int IntKind.i64 0))) := by kernel_rfl
@[go_sem] theorem eq3 : eqTOf Tryz.prog 3 = EqT.other := by kernel_rfl
@[go_sem] theorem cv3 : cvTOf Tryz.prog 3 = CvT.int IntKind.i64 := by kernel_rfl
@[go_sem] theorem sz4 : szOf Tryz.prog 4 = some Sz.one := by kernel_rfl
@[go_sem] theorem zo4 : zeroOf Tryz.prog 4 = some (Sz.one, SV.one (SC.pv (PV.bool false))) := by kernel_rfl
@[go_sem] theorem eq4 : eqTOf Tryz.prog 4 = EqT.bool := by kernel_rfl
@[go_sem] theorem cv4 : cvTOf Tryz.prog 4 = CvT.other := by kernel_rfl
@[go_sem] theorem sz5 : szOf Tryz.prog 5 = some Sz.one := by kernel_rfl
@[go_sem] theorem zo5 : zeroOf Tryz.prog 5 = some (Sz.one, SV.one (SC.pv (PV.int IntKind.u8 0))) := by kernel_rfl
@[go_sem] theorem eq5 : eqTOf Tryz.prog 5 = EqT.other := by kernel_rfl
@[go_sem] theorem cv5 : cvTOf Tryz.prog 5 = CvT.int IntKind.u8 := by kernel_rfl
@[go_sem] theorem sz6 : szOf Tryz.prog 6 = some Sz.one := by kernel_rfl
@[go_sem] theorem zo6 : zeroOf Tryz.prog 6 = some (Sz.one, SV.one (SC.pv (PV.int IntKind.u8 0))) := by kernel_rfl
@[go_sem] theorem eq6 : eqTOf Tryz.prog 6 = EqT.other := by kernel_rfl
@[go_sem] theorem cv6 : cvTOf Tryz.prog 6 = CvT.int IntKind.u8 := by kernel_rfl
@[go_sem] theorem sz7 : szOf Tryz.prog 7 = some (Sz.agg 4) := by kernel_rfl
@[go_sem] theorem zo7 : zeroOf Tryz.prog 7 = some (Sz.agg 4, SV.agg [SC.pv (PV.int IntKind.i64 0), SC.pv (PV.int IntKind.i64 0), SC.pv (PV.bool false), SC.pv (PV.int IntKind.u8 0)]) := by kernel_rfl
@[go_sem] theorem pl7 : placesOf Tryz.prog 7 = some [(0, Sz.one), (1, Sz.one), (2, Sz.one), (3, Sz.one)] := by kernel_rfl
@[go_sem] theorem eq7 : eqTOf Tryz.prog 7 = EqT.other := by kernel_rfl
@[go_sem] theorem cv7 : cvTOf Tryz.prog 7 = CvT.other := by kernel_rfl
@[go_sem] theorem fo7_0 : fieldOff Tryz.prog 7 0 = some 0 := by kernel_rfl
@[go_sem] theorem fs7_0 : fieldSz Tryz.prog 7 0 = some Sz.one := by kernel_rfl
@[go_sem] theorem fo7_1 : fieldOff Tryz.prog 7 1 = some 1 := by kernel_rfl
@[go_sem] theorem fs7_1 : fieldSz Tryz.prog 7 1 = some Sz.one := by kernel_rfl
@[go_sem] theorem fo7_2 : fieldOff Tryz.prog 7 2 = some 2 := by kernel_rfl
@[go_sem] theorem fs7_2 : fieldSz Tryz.prog 7 2 = some Sz.one := by kernel_rfl
@[go_sem] theorem fo7_3 : fieldOff Tryz.prog 7 3 = some 3 := by kernel_rfl
@[go_sem] theorem fs7_3 : fieldSz Tryz.prog 7 3 = some Sz.one := by kernel_rfl
@[go_sem] theorem sz8 : szOf Tryz.prog 8 = some (Sz.agg 4) := by kernel_rfl
@[go_sem] theorem zo8 : zeroOf Tryz.prog 8 = some (Sz.agg 4, SV.agg [SC.pv (PV.int IntKind.i64 0), SC.pv (PV.int IntKind.i64 0), SC.pv (PV.bool false), SC.pv (PV.int IntKind.u8 0)]) := by kernel_rfl
@[go_sem] theorem pl8 : placesOf Tryz.prog 8 = some [(0, Sz.one), (1, Sz.one), (2, Sz.one), (3, Sz.one)] := by kernel_rfl
@[go_sem] theorem eq8 : eqTOf Tryz.prog 8 = EqT.other := by kernel_rfl
@[go_sem] theorem cv8 : cvTOf Tryz.prog 8 = CvT.other := by kernel_rfl
@[go_sem] theorem fo8_0 : fieldOff Tryz.prog 8 0 = some 0 := by kernel_rfl
@[go_sem] theorem fs8_0 : fieldSz Tryz.prog 8 0 = some Sz.one := by kernel_rfl
@[go_sem] theorem fo8_1 : fieldOff Tryz.prog 8 1 = some 1 := by kernel_rfl
@[go_sem] theorem fs8_1 : fieldSz Tryz.prog 8 1 = some Sz.one := by kernel_rfl
@[go_sem] theorem fo8_2 : fieldOff Tryz.prog 8 2 = some 2 := by kernel_rfl
@[go_sem] theorem fs8_2 : fieldSz Tryz.prog 8 2 = some Sz.one := by kernel_rfl
@[go_sem] theorem fo8_3 : fieldOff Tryz.prog 8 3 = some 3 := by kernel_rfl
@[go_sem] theorem fs8_3 : fieldSz Tryz.prog 8 3 = some Sz.one := by kernel_rfl
@[go_sem] theorem sz9 : szOf Tryz.prog 9 = some Sz.one := by kernel_rfl
@[go_sem] theorem zo9 : zeroOf Tryz.prog 9 = some (Sz.one, SV.one (SC.pv (PV.str ByteArray.empty))) := by kernel_rfl
@[go_sem] theorem eq9 : eqTOf Tryz.prog 9 = EqT.str := by kernel_rfl
@[go_sem] theorem cv9 : cvTOf Tryz.prog 9 = CvT.string := by kernel_rfl
@[go_sem] theorem sz10 : szOf Tryz.prog 10 = some Sz.one := by kernel_rfl
@[go_sem] theorem zo10 : zeroOf Tryz.prog 10 = some (Sz.one, SV.one (SC.pv (PV.str ByteArray.empty))) := by kernel_rfl
@[go_sem] theorem eq10 : eqTOf Tryz.prog 10 = EqT.str := by kernel_rfl
@[go_sem] theorem cv10 : cvTOf Tryz.prog 10 = CvT.string := by kernel_rfl
@[go_sem] theorem sz11 : szOf Tryz.prog 11 = some Sz.one := by kernel_rfl
@[go_sem] theorem zo11 : zeroOf Tryz.prog 11 = some (Sz.one, SV.one (SC.pv (PV.str ByteArray.empty))) := by kernel_rfl
@[go_sem] theorem eq11 : eqTOf Tryz.prog 11 = EqT.str := by kernel_rfl
@[go_sem] theorem cv11 : cvTOf Tryz.prog 11 = CvT.string := by kernel_rfl
@[go_sem] theorem sz12 : szOf Tryz.prog 12 = some Sz.one := by kernel_rfl
@[go_sem] theorem zo12 : zeroOf Tryz.prog 12 = some (Sz.one, SV.one (SC.pv (PV.int IntKind.u64 0))) := by kernel_rfl
@[go_sem] theorem eq12 : eqTOf Tryz.prog 12 = EqT.other := by kernel_rfl
@[go_sem] theorem cv12 : cvTOf Tryz.prog 12 = CvT.int IntKind.u64 := by kernel_rfl
@[go_sem] theorem sz13 : szOf Tryz.prog 13 = some (Sz.agg 2) := by kernel_rfl
@[go_sem] theorem zo13 : zeroOf Tryz.prog 13 = some (Sz.agg 2, SV.agg [SC.pv (PV.str ByteArray.empty), SC.pv (PV.int IntKind.u64 0)]) := by kernel_rfl
@[go_sem] theorem pl13 : placesOf Tryz.prog 13 = some [(0, Sz.one), (1, Sz.one)] := by kernel_rfl
@[go_sem] theorem eq13 : eqTOf Tryz.prog 13 = EqT.other := by kernel_rfl
@[go_sem] theorem cv13 : cvTOf Tryz.prog 13 = CvT.other := by kernel_rfl
@[go_sem] theorem fo13_0 : fieldOff Tryz.prog 13 0 = some 0 := by kernel_rfl
@[go_sem] theorem fs13_0 : fieldSz Tryz.prog 13 0 = some Sz.one := by kernel_rfl
@[go_sem] theorem fo13_1 : fieldOff Tryz.prog 13 1 = some 1 := by kernel_rfl
@[go_sem] theorem fs13_1 : fieldSz Tryz.prog 13 1 = some Sz.one := by kernel_rfl
@[go_sem] theorem sz14 : szOf Tryz.prog 14 = some (Sz.agg 2) := by kernel_rfl
@[go_sem] theorem zo14 : zeroOf Tryz.prog 14 = some (Sz.agg 2, SV.agg [SC.pv (PV.str ByteArray.empty), SC.pv (PV.int IntKind.u64 0)]) := by kernel_rfl
@[go_sem] theorem pl14 : placesOf Tryz.prog 14 = some [(0, Sz.one), (1, Sz.one)] := by kernel_rfl
@[go_sem] theorem eq14 : eqTOf Tryz.prog 14 = EqT.other := by kernel_rfl
@[go_sem] theorem cv14 : cvTOf Tryz.prog 14 = CvT.other := by kernel_rfl
@[go_sem] theorem fo14_0 : fieldOff Tryz.prog 14 0 = some 0 := by kernel_rfl
@[go_sem] theorem fs14_0 : fieldSz Tryz.prog 14 0 = some Sz.one := by kernel_rfl
@[go_sem] theorem fo14_1 : fieldOff Tryz.prog 14 1 = some 1 := by kernel_rfl
@[go_sem] theorem fs14_1 : fieldSz Tryz.prog 14 1 = some Sz.one := by kernel_rfl
@[go_sem] theorem sz15 : szOf Tryz.prog 15 = some Sz.one := by kernel_rfl
@[go_sem] theorem zo15 : zeroOf Tryz.prog 15 = some (Sz.one, SV.one (SC.pv PV.nilp)) := by kernel_rfl
@[go_sem] theorem eq15 : eqTOf Tryz.prog 15 = EqT.ptr := by kernel_rfl
@[go_sem] theorem cv15 : cvTOf Tryz.prog 15 = CvT.other := by kernel_rfl
@[go_sem] theorem sz16 : szOf Tryz.prog 16 = some Sz.one := by kernel_rfl
@[go_sem] theorem zo16 : zeroOf Tryz.prog 16 = some (Sz.one, SV.one (SC.pv PV.nilp)) := by kernel_rfl
@[go_sem] theorem eq16 : eqTOf Tryz.prog 16 = EqT.ptr := by kernel_rfl
@[go_sem] theorem cv16 : cvTOf Tryz.prog 16 = CvT.other := by kernel_rfl
@[go_sem] theorem sz17 : szOf Tryz.prog 17 = some Sz.one := by kernel_rfl
@[go_sem] theorem zo17 : zeroOf Tryz.prog 17 = some (Sz.one, SV.one (SC.pv PV.nilp)) := by kernel_rfl
@[go_sem] theorem eq17 : eqTOf Tryz.prog 17 = EqT.ptr := by kernel_rfl
@[go_sem] theorem cv17 : cvTOf Tryz.prog 17 = CvT.other := by kernel_rfl
@[go_sem] theorem sz18 : szOf Tryz.prog 18 = some (Sz.agg 1) := by kernel_rfl
@[go_sem] theorem zo18 : zeroOf Tryz.prog 18 = some (Sz.agg 1, SV.agg [SC.pv PV.nilp]) := by kernel_rfl
@[go_sem] theorem pl18 : placesOf Tryz.prog 18 = some [(0, Sz.one)] := by kernel_rfl
@[go_sem] theorem eq18 : eqTOf Tryz.prog 18 = EqT.other := by kernel_rfl
@[go_sem] theorem cv18 : cvTOf Tryz.prog 18 = CvT.other := by kernel_rfl
@[go_sem] theorem fo18_0 : fieldOff Tryz.prog 18 0 = some 0 := by kernel_rfl
@[go_sem] theorem fs18_0 : fieldSz Tryz.prog 18 0 = some Sz.one := by kernel_rfl
@[go_sem] theorem sz19 : szOf Tryz.prog 19 = some (Sz.agg 1) := by kernel_rfl
@[go_sem] theorem zo19 : zeroOf Tryz.prog 19 = some (Sz.agg 1, SV.agg [SC.pv PV.nilp]) := by kernel_rfl
@[go_sem] theorem pl19 : placesOf Tryz.prog 19 = some [(0, Sz.one)] := by kernel_rfl
@[go_sem] theorem eq19 : eqTOf Tryz.prog 19 = EqT.other := by kernel_rfl
@[go_sem] theorem cv19 : cvTOf Tryz.prog 19 = CvT.other := by kernel_rfl
@[go_sem] theorem fo19_0 : fieldOff Tryz.prog 19 0 = some 0 := by kernel_rfl
@[go_sem] theorem fs19_0 : fieldSz Tryz.prog 19 0 = some Sz.one := by kernel_rfl
@[go_sem] theorem sz20 : szOf Tryz.prog 20 = some Sz.one := by kernel_rfl
@[go_sem] theorem zo20 : zeroOf Tryz.prog 20 = some (Sz.one, SV.one (SC.pv PV.nili)) := by kernel_rfl
@[go_sem] theorem eq20 : eqTOf Tryz.prog 20 = EqT.iface := by kernel_rfl
@[go_sem] theorem cv20 : cvTOf Tryz.prog 20 = CvT.other := by kernel_rfl
@[go_sem] theorem sz21 : szOf Tryz.prog 21 = some Sz.one := by kernel_rfl
@[go_sem] theorem zo21 : zeroOf Tryz.prog 21 = some (Sz.one, SV.one (SC.pv (PV.int IntKind.i32 0))) := by kernel_rfl
@[go_sem] theorem eq21 : eqTOf Tryz.prog 21 = EqT.other := by kernel_rfl
@[go_sem] theorem cv21 : cvTOf Tryz.prog 21 = CvT.int IntKind.i32 := by kernel_rfl
@[go_sem] theorem sz22 : szOf Tryz.prog 22 = some Sz.one := by kernel_rfl
@[go_sem] theorem el22 : elemOf Tryz.prog 22 = some 24 := by kernel_rfl
@[go_sem] theorem es22 : elemSz Tryz.prog 22 = some (Sz.agg 1, 24) := by kernel_rfl
@[go_sem] theorem zo22 : zeroOf Tryz.prog 22 = some (Sz.one, SV.one SC.nilS) := by kernel_rfl
@[go_sem] theorem eq22 : eqTOf Tryz.prog 22 = EqT.other := by kernel_rfl
@[go_sem] theorem cv22 : cvTOf Tryz.prog 22 = CvT.other := by kernel_rfl
@[go_sem] theorem sz23 : szOf Tryz.prog 23 = some (Sz.agg 1) := by kernel_rfl
@[go_sem] theorem zo23 : zeroOf Tryz.prog 23 = some (Sz.agg 1, SV.agg [SC.nilS]) := by kernel_rfl
@[go_sem] theorem pl23 : placesOf Tryz.prog 23 = some [(0, Sz.one)] := by kernel_rfl
@[go_sem] theorem eq23 : eqTOf Tryz.prog 23 = EqT.other := by kernel_rfl
@[go_sem] theorem cv23 : cvTOf Tryz.prog 23 = CvT.other := by kernel_rfl
@[go_sem] theorem fo23_0 : fieldOff Tryz.prog 23 0 = some 0 := by kernel_rfl
@[go_sem] theorem fs23_0 : fieldSz Tryz.prog 23 0 = some Sz.one := by kernel_rfl
@[go_sem] theorem sz24 : szOf Tryz.prog 24 = some (Sz.agg 1) := by kernel_rfl
@[go_sem] theorem zo24 : zeroOf Tryz.prog 24 = some (Sz.agg 1, SV.agg [SC.nilS]) := by kernel_rfl
@[go_sem] theorem pl24 : placesOf Tryz.prog 24 = some [(0, Sz.one)] := by kernel_rfl
@[go_sem] theorem eq24 : eqTOf Tryz.prog 24 = EqT.other := by kernel_rfl
@[go_sem] theorem cv24 : cvTOf Tryz.prog 24 = CvT.other := by kernel_rfl
@[go_sem] theorem fo24_0 : fieldOff Tryz.prog 24 0 = some 0 := by kernel_rfl
@[go_sem] theorem fs24_0 : fieldSz Tryz.prog 24 0 = some Sz.one := by kernel_rfl
@[go_sem] theorem sz25 : szOf Tryz.prog 25 = some Sz.one := by kernel_rfl
@[go_sem] theorem el25 : elemOf Tryz.prog 25 = some 9 := by kernel_rfl
@[go_sem] theorem es25 : elemSz Tryz.prog 25 = some (Sz.one, 16) := by kernel_rfl
@[go_sem] theorem zo25 : zeroOf Tryz.prog 25 = some (Sz.one, SV.one SC.nilS) := by kernel_rfl
@[go_sem] theorem eq25 : eqTOf Tryz.prog 25 = EqT.other := by kernel_rfl
@[go_sem] theorem cv25 : cvTOf Tryz.prog 25 = CvT.other := by kernel_rfl
@[go_sem] theorem sz26 : szOf Tryz.prog 26 = some Sz.one := by kernel_rfl
@[go_sem] theorem el26 : elemOf Tryz.prog 26 = some 28 := by kernel_rfl
@[go_sem] theorem es26 : elemSz Tryz.prog 26 = some (Sz.agg 6, 104) := by kernel_rfl
@[go_sem] theorem zo26 : zeroOf Tryz.prog 26 = some (Sz.one, SV.one SC.nilS) := by kernel_rfl
@[go_sem] theorem eq26 : eqTOf Tryz.prog 26 = EqT.other := by kernel_rfl
@[go_sem] theorem cv26 : cvTOf Tryz.prog 26 = CvT.other := by kernel_rfl
@[go_sem] theorem sz27 : szOf Tryz.prog 27 = some (Sz.agg 6) := by kernel_rfl
@[go_sem] theorem zo27 : zeroOf Tryz.prog 27 = some (Sz.agg 6, SV.agg [SC.pv (PV.int IntKind.i64 0), SC.pv (PV.int IntKind.i64 0), SC.pv (PV.str ByteArray.empty), SC.nilS, SC.nilS, SC.nilS]) := by kernel_rfl
@[go_sem] theorem pl27 : placesOf Tryz.prog 27 = some [(0, Sz.one), (1, Sz.one), (2, Sz.one), (3, Sz.agg 1), (4, Sz.one), (5, Sz.one)] := by kernel_rfl
@[go_sem] theorem eq27 : eqTOf Tryz.prog 27 = EqT.other := by kernel_rfl
@[go_sem] theorem cv27 : cvTOf Tryz.prog 27 = CvT.other := by kernel_rfl
@[go_sem] theorem fo27_0 : fieldOff Tryz.prog 27 0 = some 0 := by kernel_rfl
@[go_sem] theorem fs27_0 : fieldSz Tryz.prog 27 0 = some Sz.one := by kernel_rfl
@[go_sem] theorem fo27_1 : fieldOff Tryz.prog 27 1 = some 1 := by kernel_rfl
@[go_sem] theorem fs27_1 : fieldSz Tryz.prog 27 1 = some Sz.one := by kernel_rfl
@[go_sem] theorem fo27_2 : fieldOff Tryz.prog 27 2 = some 2 := by kernel_rfl
@[go_sem] theorem fs27_2 : fieldSz Tryz.prog 27 2 = some Sz.one := by kernel_rfl
@[go_sem] theorem fo27_3 : fieldOff Tryz.prog 27 3 = some 3 := by kernel_rfl
@[go_sem] theorem fs27_3 : fieldSz Tryz.prog 27 3 = some (Sz.agg 1) := by kernel_rfl
@[go_sem] theorem fo27_4 : fieldOff Tryz.prog 27 4 = some 4 := by kernel_rfl
@[go_sem] theorem fs27_4 : fieldSz Tryz.prog 27 4 = some Sz.one := by kernel_rfl
@[go_sem] theorem fo27_5 : fieldOff Tryz.prog 27 5 = some 5 := by kernel_rfl
@[go_sem] theorem fs27_5 : fieldSz Tryz.prog 27 5 = some Sz.one := by kernel_rfl
@[go_sem] theorem sz28 : szOf Tryz.prog 28 = some (Sz.agg 6) := by kernel_rfl
@[go_sem] theorem zo28 : zeroOf Tryz.prog 28 = some (Sz.agg 6, SV.agg [SC.pv (PV.int IntKind.i64 0), SC.pv (PV.int IntKind.i64 0), SC.pv (PV.str ByteArray.empty), SC.nilS, SC.nilS, SC.nilS]) := by kernel_rfl
@[go_sem] theorem pl28 : placesOf Tryz.prog 28 = some [(0, Sz.one), (1, Sz.one), (2, Sz.one), (3, Sz.agg 1), (4, Sz.one), (5, Sz.one)] := by kernel_rfl
@[go_sem] theorem eq28 : eqTOf Tryz.prog 28 = EqT.other := by kernel_rfl
@[go_sem] theorem cv28 : cvTOf Tryz.prog 28 = CvT.other := by kernel_rfl
@[go_sem] theorem fo28_0 : fieldOff Tryz.prog 28 0 = some 0 := by kernel_rfl
@[go_sem] theorem fs28_0 : fieldSz Tryz.prog 28 0 = some Sz.one := by kernel_rfl
@[go_sem] theorem fo28_1 : fieldOff Tryz.prog 28 1 = some 1 := by kernel_rfl
@[go_sem] theorem fs28_1 : fieldSz Tryz.prog 28 1 = some Sz.one := by kernel_rfl
@[go_sem] theorem fo28_2 : fieldOff Tryz.prog 28 2 = some 2 := by kernel_rfl
@[go_sem] theorem fs28_2 : fieldSz Tryz.prog 28 2 = some Sz.one := by kernel_rfl
@[go_sem] theorem fo28_3 : fieldOff Tryz.prog 28 3 = some 3 := by kernel_rfl
@[go_sem] theorem fs28_3 : fieldSz Tryz.prog 28 3 = some (Sz.agg 1) := by kernel_rfl
@[go_sem] theorem fo28_4 : fieldOff Tryz.prog 28 4 = some 4 := by kernel_rfl
@[go_sem] theorem fs28_4 : fieldSz Tryz.prog 28 4 = some Sz.one := by kernel_rfl
@[go_sem] theorem fo28_5 : fieldOff Tryz.prog 28 5 = some 5 := by kernel_rfl
@[go_sem] theorem fs28_5 : fieldSz Tryz.prog 28 5 = some Sz.one := by kernel_rfl
@[go_sem] theorem sz29 : szOf Tryz.prog 29 = some Sz.one := by kernel_rfl
@[go_sem] theorem zo29 : zeroOf Tryz.prog 29 = some (Sz.one, SV.one (SC.pv PV.nilfn)) := by kernel_rfl
@[go_sem] theorem eq29 : eqTOf Tryz.prog 29 = EqT.other := by kernel_rfl
@[go_sem] theorem cv29 : cvTOf Tryz.prog 29 = CvT.other := by kernel_rfl
@[go_sem] theorem sz30 : szOf Tryz.prog 30 = some Sz.one := by kernel_rfl
@[go_sem] theorem zo30 : zeroOf Tryz.prog 30 = some (Sz.one, SV.one (SC.pv PV.nilfn)) := by kernel_rfl
@[go_sem] theorem eq30 : eqTOf Tryz.prog 30 = EqT.other := by kernel_rfl
@[go_sem] theorem cv30 : cvTOf Tryz.prog 30 = CvT.other := by kernel_rfl
@[go_sem] theorem sz31 : szOf Tryz.prog 31 = some Sz.one := by kernel_rfl
@[go_sem] theorem zo31 : zeroOf Tryz.prog 31 = some (Sz.one, SV.one (SC.pv PV.nilfn)) := by kernel_rfl
@[go_sem] theorem eq31 : eqTOf Tryz.prog 31 = EqT.other := by kernel_rfl
@[go_sem] theorem cv31 : cvTOf Tryz.prog 31 = CvT.other := by kernel_rfl
@[go_sem] theorem sz32 : szOf Tryz.prog 32 = some Sz.one := by kernel_rfl
@[go_sem] theorem zo32 : zeroOf Tryz.prog 32 = some (Sz.one, SV.one (SC.pv (PV.int IntKind.i64 0))) := by kernel_rfl
@[go_sem] theorem eq32 : eqTOf Tryz.prog 32 = EqT.other := by kernel_rfl
@[go_sem] theorem cv32 : cvTOf Tryz.prog 32 = CvT.int IntKind.i64 := by kernel_rfl
@[go_sem] theorem sz33 : szOf Tryz.prog 33 = some Sz.one := by kernel_rfl
@[go_sem] theorem eq33 : eqTOf Tryz.prog 33 = EqT.other := by kernel_rfl
@[go_sem] theorem cv33 : cvTOf Tryz.prog 33 = CvT.other := by kernel_rfl
@[go_sem] theorem sz34 : szOf Tryz.prog 34 = some Sz.one := by kernel_rfl
@[go_sem] theorem zo34 : zeroOf Tryz.prog 34 = some (Sz.one, SV.one (SC.pv PV.nilfn)) := by kernel_rfl
@[go_sem] theorem eq34 : eqTOf Tryz.prog 34 = EqT.other := by kernel_rfl
@[go_sem] theorem cv34 : cvTOf Tryz.prog 34 = CvT.other := by kernel_rfl
@[go_sem] theorem sz35 : szOf Tryz.prog 35 = some Sz.one := by kernel_rfl
@[go_sem] theorem zo35 : zeroOf Tryz.prog 35 = some (Sz.one, SV.one (SC.pv PV.nilfn)) := by kernel_rfl
@[go_sem] theorem eq35 : eqTOf Tryz.prog 35 = EqT.other := by kernel_rfl
@[go_sem] theorem cv35 : cvTOf Tryz.prog 35 = CvT.other := by kernel_rfl
@[go_sem] theorem sz36 : szOf Tryz.prog 36 = some Sz.one := by kernel_rfl
@[go_sem] theorem zo36 : zeroOf Tryz.prog 36 = some (Sz.one, SV.one (SC.pv PV.nilfn)) := by kernel_rfl
@[go_sem] theorem eq36 : eqTOf Tryz.prog 36 = EqT.other := by kernel_rfl
@[go_sem] theorem cv36 : cvTOf Tryz.prog 36 = CvT.other := by kernel_rfl
@[go_sem] theorem sz37 : szOf Tryz.prog 37 = some Sz.one := by kernel_rfl
@[go_sem] theorem zo37 : zeroOf Tryz.prog 37 = some (Sz.one, SV.one (SC.pv PV.nilfn)) := by kernel_rfl
@[go_sem] theorem eq37 : eqTOf Tryz.prog 37 = EqT.other := by kernel_rfl
@[go_sem] theorem cv37 : cvTOf Tryz.prog 37 = CvT.other := by kernel_rfl
@[go_sem] theorem sz38 : szOf Tryz.prog 38 = some Sz.one := by kernel_rfl
@[go_sem] theorem zo38 : zeroOf Tryz.prog 38 = some (Sz.one, SV.one (SC.pv PV.nilfn)) := by kernel_rfl
@[go_sem] theorem eq38 : eqTOf Tryz.prog 38 = EqT.other := by kernel_rfl
@[go_sem] theorem cv38 : cvTOf Tryz.prog 38 = CvT.other := by kernel_rfl
@[go_sem] theorem sz39 : szOf Tryz.prog 39 = some Sz.one := by kernel_rfl
@[go_sem] theorem zo39 : zeroOf Tryz.prog 39 = some (Sz.one, SV.one (SC.pv PV.nilfn)) := by kernel_rfl
@[go_sem] theorem eq39 : eqTOf Tryz.prog 39 = EqT.other := by kernel_rfl
@[go_sem] theorem cv39 : cvTOf Tryz.prog 39 = CvT.other := by kernel_rfl
@[go_sem] theorem sz40 : szOf Tryz.prog 40 = some Sz.one := by kernel_rfl
@[go_sem] theorem zo40 : zeroOf Tryz.prog 40 = some (Sz.one, SV.one (SC.pv PV.nilfn)) := by kernel_rfl
@[go_sem] theorem eq40 : eqTOf Tryz.prog 40 = EqT.other := by kernel_rfl
@[go_sem] theorem cv40 : cvTOf Tryz.prog 40 = CvT.other := by kernel_rfl
@[go_sem] theorem sz41 : szOf Tryz.prog 41 = some Sz.one := by kernel_rfl
@[go_sem] theorem zo41 : zeroOf Tryz.prog 41 = some (Sz.one, SV.one (SC.pv PV.nilfn)) := by kernel_rfl
@[go_sem] theorem eq41 : eqTOf Tryz.prog 41 = EqT.other := by kernel_rfl
@[go_sem] theorem cv41 : cvTOf Tryz.prog 41 = CvT.other := by kernel_rfl
@[go_sem] theorem sz42 : szOf Tryz.prog 42 = some Sz.one := by kernel_rfl
@[go_sem] theorem zo42 : zeroOf Tryz.prog 42 = some (Sz.one, SV.one (SC.pv PV.nilfn)) := by kernel_rfl
@[go_sem] theorem eq42 : eqTOf Tryz.prog 42 = EqT.other := by kernel_rfl
@[go_sem] theorem cv42 : cvTOf Tryz.prog 42 = CvT.other := by kernel_rfl
@[go_sem] theorem sz43 : szOf Tryz.prog 43 = some Sz.one := by kernel_rfl
@[go_sem] theorem zo43 : zeroOf Tryz.prog 43 = some (Sz.one, SV.one (SC.pv PV.nilfn)) := by kernel_rfl
@[go_sem] theorem eq43 : eqTOf Tryz.prog 43 = EqT.other := by kernel_rfl
@[go_sem] theorem cv43 : cvTOf Tryz.prog 43 = CvT.other := by kernel_rfl
@[go_sem] theorem sz44 : szOf Tryz.prog 44 = some Sz.one := by kernel_rfl
@[go_sem] theorem zo44 : zeroOf Tryz.prog 44 = some (Sz.one, SV.one (SC.pv PV.nilfn)) := by kernel_rfl
@[go_sem] theorem eq44 : eqTOf Tryz.prog 44 = EqT.other := by kernel_rfl
@[go_sem] theorem cv44 : cvTOf Tryz.prog 44 = CvT.other := by kernel_rfl
@[go_sem] theorem sz45 : szOf Tryz.prog 45 = some Sz.one := by kernel_rfl
@[go_sem] theorem eq45 : eqTOf Tryz.prog 45 = EqT.other := by kernel_rfl
@[go_sem] theorem cv45 : cvTOf Tryz.prog 45 = CvT.other := by kernel_rfl
@[go_sem] theorem sz46 : szOf Tryz.prog 46 = some Sz.one := by kernel_rfl
@[go_sem] theorem zo46 : zeroOf Tryz.prog 46 = some (Sz.one, SV.one (SC.pv PV.nilfn)) := by kernel_rfl
@[go_sem] theorem eq46 : eqTOf Tryz.prog 46 = EqT.other := by kernel_rfl
@[go_sem] theorem cv46 : cvTOf Tryz.prog 46 = CvT.other := by kernel_rfl
@[go_sem] theorem sz47 : szOf Tryz.prog 47 = some Sz.one := by kernel_rfl
@[go_sem] theorem zo47 : zeroOf Tryz.prog 47 = some (Sz.one, SV.one (SC.pv PV.nilfn)) := by kernel_rfl
@[go_sem] theorem eq47 : eqTOf Tryz.prog 47 = EqT.other := by kernel_rfl
@[go_sem] theorem cv47 : cvTOf Tryz.prog 47 = CvT.other := by kernel_rfl
@[go_sem] theorem sz48 : szOf Tryz.prog 48 = some Sz.one := by kernel_rfl
@[go_sem] theorem zo48 : zeroOf Tryz.prog 48 = some (Sz.one, SV.one (SC.pv PV.nilfn)) := by kernel_rfl
@[go_sem] theorem eq48 : eqTOf Tryz.prog 48 = EqT.other := by kernel_rfl
@[go_sem] theorem cv48 : cvTOf Tryz.prog 48 = CvT.other := by kernel_rfl
@[go_sem] theorem sz49 : szOf Tryz.prog 49 = some Sz.one := by kernel_rfl
@[go_sem] theorem eq49 : eqTOf Tryz.prog 49 = EqT.other := by kernel_rfl
@[go_sem] theorem cv49 : cvTOf Tryz.prog 49 = CvT.other := by kernel_rfl
@[go_sem] theorem sz50 : szOf Tryz.prog 50 = some Sz.one := by kernel_rfl
@[go_sem] theorem zo50 : zeroOf Tryz.prog 50 = some (Sz.one, SV.one (SC.pv PV.nilfn)) := by kernel_rfl
@[go_sem] theorem eq50 : eqTOf Tryz.prog 50 = EqT.other := by kernel_rfl
@[go_sem] theorem cv50 : cvTOf Tryz.prog 50 = CvT.other := by kernel_rfl
@[go_sem] theorem sz51 : szOf Tryz.prog 51 = some Sz.one := by kernel_rfl
@[go_sem] theorem zo51 : zeroOf Tryz.prog 51 = some (Sz.one, SV.one (SC.pv PV.nilfn)) := by kernel_rfl
@[go_sem] theorem eq51 : eqTOf Tryz.prog 51 = EqT.other := by kernel_rfl
@[go_sem] theorem cv51 : cvTOf Tryz.prog 51 = CvT.other := by kernel_rfl
@[go_sem] theorem sz52 : szOf Tryz.prog 52 = some Sz.one := by kernel_rfl
@[go_sem] theorem zo52 : zeroOf Tryz.prog 52 = some (Sz.one, SV.one (SC.pv PV.nilfn)) := by kernel_rfl
@[go_sem] theorem eq52 : eqTOf Tryz.prog 52 = EqT.other := by kernel_rfl
@[go_sem] theorem cv52 : cvTOf Tryz.prog 52 = CvT.other := by kernel_rfl
@[go_sem] theorem sz53 : szOf Tryz.prog 53 = some Sz.one := by kernel_rfl
@[go_sem] theorem zo53 : zeroOf Tryz.prog 53 = some (Sz.one, SV.one (SC.pv PV.nilfn)) := by kernel_rfl
@[go_sem] theorem eq53 : eqTOf Tryz.prog 53 = EqT.other := by kernel_rfl
@[go_sem] theorem cv53 : cvTOf Tryz.prog 53 = CvT.other := by kernel_rfl
@[go_sem] theorem sz54 : szOf Tryz.prog 54 = some Sz.one := by kernel_rfl
@[go_sem] theorem zo54 : zeroOf Tryz.prog 54 = some (Sz.one, SV.one (SC.pv PV.nilfn)) := by kernel_rfl
@[go_sem] theorem eq54 : eqTOf Tryz.prog 54 = EqT.other := by kernel_rfl
@[go_sem] theorem cv54 : cvTOf Tryz.prog 54 = CvT.other := by kernel_rfl
@[go_sem] theorem sz55 : szOf Tryz.prog 55 = some Sz.one := by kernel_rfl
@[go_sem] theorem el55 : elemOf Tryz.prog 55 = some 3 := by kernel_rfl
@[go_sem] theorem es55 : elemSz Tryz.prog 55 = some (Sz.one, 8) := by kernel_rfl
@[go_sem] theorem zo55 : zeroOf Tryz.prog 55 = some (Sz.one, SV.one SC.nilS) := by kernel_rfl
@[go_sem] theorem eq55 : eqTOf Tryz.prog 55 = EqT.other := by kernel_rfl
@[go_sem] theorem cv55 : cvTOf Tryz.prog 55 = CvT.other := by kernel_rfl
@[go_sem] theorem sz56 : szOf Tryz.prog 56 = some Sz.one := by kernel_rfl
@[go_sem] theorem eq56 : eqTOf Tryz.prog 56 = EqT.other := by kernel_rfl
@[go_sem] theorem cv56 : cvTOf Tryz.prog 56 = CvT.other := by kernel_rfl
@[go_sem] theorem sz57 : szOf Tryz.prog 57 = some Sz.one := by kernel_rfl
@[go_sem] theorem zo57 : zeroOf Tryz.prog 57 = some (Sz.one, SV.one (SC.pv PV.nilfn)) := by kernel_rfl
@[go_sem] theorem eq57 : eqTOf Tryz.prog 57 = EqT.other := by kernel_rfl
@[go_sem] theorem cv57 : cvTOf Tryz.prog 57 = CvT.other := by kernel_rfl
@[go_sem] theorem sz58 : szOf Tryz.prog 58 = some Sz.one := by kernel_rfl
@[go_sem] theorem zo58 : zeroOf Tryz.prog 58 = some (Sz.one, SV.one (SC.pv PV.nilfn)) := by kernel_rfl
@[go_sem] theorem eq58 : eqTOf Tryz.prog 58 = EqT.other := by kernel_rfl
@[go_sem] theorem cv58 : cvTOf Tryz.prog 58 = CvT.other := by kernel_rfl
@[go_sem] theorem sz59 : szOf Tryz.prog 59 = some Sz.one := by kernel_rfl
@[go_sem] theorem zo59 : zeroOf Tryz.prog 59 = some (Sz.one, SV.one (SC.pv PV.nilfn)) := by kernel_rfl
@[go_sem] theorem eq59 : eqTOf Tryz.prog 59 = EqT.other := by kernel_rfl
@[go_sem] theorem cv59 : cvTOf Tryz.prog 59 = CvT.other := by kernel_rfl
@[go_sem] theorem sz60 : szOf Tryz.prog 60 = some Sz.one := by kernel_rfl
@[go_sem] theorem zo60 : zeroOf Tryz.prog 60 = some (Sz.one, SV.one (SC.pv PV.nilfn)) := by kernel_rfl
@[go_sem] theorem eq60 : eqTOf Tryz.prog 60 = EqT.other := by kernel_rfl
@[go_sem] theorem cv60 : cvTOf Tryz.prog 60 = CvT.other := by kernel_rfl
@[go_sem] theorem sz61 : szOf Tryz.prog 61 = some Sz.one := by kernel_rfl
@[go_sem] theorem zo61 : zeroOf Tryz.prog 61 = some (Sz.one, SV.one (SC.pv PV.nilfn)) := by kernel_rfl
@[go_sem] theorem eq61 : eqTOf Tryz.prog 61 = EqT.other := by kernel_rfl
@[go_sem] theorem cv61 : cvTOf Tryz.prog 61 = CvT.other := by kernel_rfl
@[go_sem] theorem sz62 : szOf Tryz.prog 62 = some Sz.one := by kernel_rfl
@[go_sem] theorem zo62 : zeroOf Tryz.prog 62 = some (Sz.one, SV.one (SC.pv PV.nilfn)) := by kernel_rfl
@[go_sem] theorem eq62 : eqTOf Tryz.prog 62 = EqT.other := by kernel_rfl
@[go_sem] theorem cv62 : cvTOf Tryz.prog 62 = CvT.other := by kernel_rfl
@[go_sem] theorem sz63 : szOf Tryz.prog 63 = some Sz.one := by kernel_rfl
@[go_sem] theorem zo63 : zeroOf Tryz.prog 63 = some (Sz.one, SV.one (SC.pv PV.nilp)) := by kernel_rfl
@[go_sem] theorem eq63 : eqTOf Tryz.prog 63 = EqT.ptr := by kernel_rfl
@[go_sem] theorem cv63 : cvTOf Tryz.prog 63 = CvT.other := by kernel_rfl
@[go_sem] theorem sz64 : szOf Tryz.prog 64 = some Sz.one := by kernel_rfl
@[go_sem] theorem zo64 : zeroOf Tryz.prog 64 = some (Sz.one, SV.one (SC.pv PV.nilfn)) := by kernel_rfl
@[go_sem] theorem eq64 : eqTOf Tryz.prog 64 = EqT.other := by kernel_rfl
@[go_sem] theorem cv64 : cvTOf Tryz.prog 64 = CvT.other := by kernel_rfl
@[go_sem] theorem sz65 : szOf Tryz.prog 65 = some Sz.one := by kernel_rfl
@[go_sem] theorem zo65 : zeroOf Tryz.prog 65 = some (Sz.one, SV.one (SC.pv PV.nilfn)) := by kernel_rfl
@[go_sem] theorem eq65 : eqTOf Tryz.prog 65 = EqT.other := by kernel_rfl
@[go_sem] theorem cv65 : cvTOf Tryz.prog 65 = CvT.other := by kernel_rfl
@[go_sem] theorem sz66 : szOf Tryz.prog 66 = some (Sz.agg 2) := by kernel_rfl
@[go_sem] theorem zo66 : zeroOf Tryz.prog 66 = some (Sz.agg 2, SV.agg [SC.pv PV.nilfn, SC.pv (PV.int IntKind.i64 0)]) := by kernel_rfl
@[go_sem] theorem pl66 : placesOf Tryz.prog 66 = some [(0, Sz.one), (1, Sz.one)] := by kernel_rfl
@[go_sem] theorem eq66 : eqTOf Tryz.prog 66 = EqT.other := by kernel_rfl
@[go_sem] theorem cv66 : cvTOf Tryz.prog 66 = CvT.other := by kernel_rfl
@[go_sem] theorem fo66_0 : fieldOff Tryz.prog 66 0 = some 0 := by kernel_rfl
@[go_sem] theorem fs66_0 : fieldSz Tryz.prog 66 0 = some Sz.one := by kernel_rfl
@[go_sem] theorem fo66_1 : fieldOff Tryz.prog 66 1 = some 1 := by kernel_rfl
@[go_sem] theorem fs66_1 : fieldSz Tryz.prog 66 1 = some Sz.one := by kernel_rfl
@[go_sem] theorem sz67 : szOf Tryz.prog 67 = some (Sz.agg 2) := by kernel_rfl
@[go_sem] theorem zo67 : zeroOf Tryz.prog 67 = some (Sz.agg 2, SV.agg [SC.pv PV.nilfn, SC.pv (PV.int IntKind.i64 0)]) := by kernel_rfl
@[go_sem] theorem pl67 : placesOf Tryz.prog 67 = some [(0, Sz.one), (1, Sz.one)] := by kernel_rfl
@[go_sem] theorem eq67 : eqTOf Tryz.prog 67 = EqT.other := by kernel_rfl
@[go_sem] theorem cv67 : cvTOf Tryz.prog 67 = CvT.other := by kernel_rfl
@[go_sem] theorem fo67_0 : fieldOff Tryz.prog 67 0 = some 0 := by kernel_rfl
@[go_sem] theorem fs67_0 : fieldSz Tryz.prog 67 0 = some Sz.one := by kernel_rfl
@[go_sem] theorem fo67_1 : fieldOff Tryz.prog 67 1 = some 1 := by kernel_rfl
@[go_sem] theorem fs67_1 : fieldSz Tryz.prog 67 1 = some Sz.one := by kernel_rfl
@[go_sem] theorem sz68 : szOf Tryz.prog 68 = some Sz.one := by kernel_rfl
@[go_sem] theorem zo68 : zeroOf Tryz.prog 68 = some (Sz.one, SV.one (SC.pv PV.nilfn)) := by kernel_rfl
@[go_sem] theorem eq68 : eqTOf Tryz.prog 68 = EqT.other := by kernel_rfl
@[go_sem] theorem cv68 : cvTOf Tryz.prog 68 = CvT.other := by kernel_rfl
@[go_sem] theorem sz69 : szOf Tryz.prog 69 = some Sz.one := by kernel_rfl
@[go_sem] theorem zo69 : zeroOf Tryz.prog 69 = some (Sz.one, SV.one (SC.pv PV.nilfn)) := by kernel_rfl
@[go_sem] theorem eq69 : eqTOf Tryz.prog 69 = EqT.other := by kernel_rfl
@[go_sem] theorem cv69 : cvTOf Tryz.prog 69 = CvT.other := by kernel_rfl
@[go_sem] theorem sz70 : szOf Tryz.prog 70 = some Sz.one := by kernel_rfl
@[go_sem] theorem zo70 : zeroOf Tryz.prog 70 = some (Sz.one, SV.one (SC.pv PV.nilfn)) := by kernel_rfl
@[go_sem] theorem eq70 : eqTOf Tryz.prog 70 = EqT.other := by kernel_rfl
@[go_sem] theorem cv70 : cvTOf Tryz.prog 70 = CvT.other := by kernel_rfl
@[go_sem] theorem sz71 : szOf Tryz.prog 71 = some Sz.one := by kernel_rfl
@[go_sem] theorem zo71 : zeroOf Tryz.prog 71 = some (Sz.one, SV.one (SC.pv PV.nilfn)) := by kernel_rfl
@[go_sem] theorem eq71 : eqTOf Tryz.prog 71 = EqT.other := by kernel_rfl
@[go_sem] theorem cv71 : cvTOf Tryz.prog 71 = CvT.other := by kernel_rfl
@[go_sem] theorem sz72 : szOf Tryz.prog 72 = some Sz.one := by kernel_rfl
@[go_sem] theorem zo72 : zeroOf Tryz.prog 72 = some (Sz.one, SV.one (SC.pv PV.nilfn)) := by kernel_rfl
@[go_sem] theorem eq72 : eqTOf Tryz.prog 72 = EqT.other := by kernel_rfl
@[go_sem] theorem cv72 : cvTOf Tryz.prog 72 = CvT.other := by kernel_rfl
@[go_sem] theorem sz73 : szOf Tryz.prog 73 = some Sz.one := by kernel_rfl
@[go_sem] theorem zo73 : zeroOf Tryz.prog 73 = some (Sz.one, SV.one (SC.pv PV.nilfn)) := by kernel_rfl
@[go_sem] theorem eq73 : eqTOf Tryz.prog 73 = EqT.other := by kernel_rfl
@[go_sem] theorem cv73 : cvTOf Tryz.prog 73 = CvT.other := by kernel_rfl
@[go_sem] theorem sz74 : szOf Tryz.prog 74 = some Sz.one := by kernel_rfl
@[go_sem] theorem zo74 : zeroOf Tryz.prog 74 = some (Sz.one, SV.one (SC.pv PV.nilfn)) := by kernel_rfl
@[go_sem] theorem eq74 : eqTOf Tryz.prog 74 = EqT.other := by kernel_rfl
@[go_sem] theorem cv74 : cvTOf Tryz.prog 74 = CvT.other := by kernel_rfl
@[go_sem] theorem sz75 : szOf Tryz.prog 75 = some Sz.one := by kernel_rfl
@[go_sem] theorem zo75 : zeroOf Tryz.prog 75 = some (Sz.one, SV.one (SC.pv PV.nilfn)) := by kernel_rfl
@[go_sem] theorem eq75 : eqTOf Tryz.prog 75 = EqT.other := by kernel_rfl
@[go_sem] theorem cv75 : cvTOf Tryz.prog 75 = CvT.other := by kernel_rfl
@[go_sem] theorem sz76 : szOf Tryz.prog 76 = some Sz.one := by kernel_rfl
@[go_sem] theorem zo76 : zeroOf Tryz.prog 76 = some (Sz.one, SV.one (SC.pv PV.nilfn)) := by kernel_rfl
@[go_sem] theorem eq76 : eqTOf Tryz.prog 76 = EqT.other := by kernel_rfl
@[go_sem] theorem cv76 : cvTOf Tryz.prog 76 = CvT.other := by kernel_rfl
@[go_sem] theorem sz77 : szOf Tryz.prog 77 = some Sz.one := by kernel_rfl
@[go_sem] theorem zo77 : zeroOf Tryz.prog 77 = some (Sz.one, SV.one (SC.pv PV.nilfn)) := by kernel_rfl
@[go_sem] theorem eq77 : eqTOf Tryz.prog 77 = EqT.other := by kernel_rfl
@[go_sem] theorem cv77 : cvTOf Tryz.prog 77 = CvT.other := by kernel_rfl
@[go_sem] theorem sz78 : szOf Tryz.prog 78 = some Sz.one := by kernel_rfl
@[go_sem] theorem zo78 : zeroOf Tryz.prog 78 = some (Sz.one, SV.one (SC.pv PV.nilfn)) := by kernel_rfl
@[go_sem] theorem eq78 : eqTOf Tryz.prog 78 = EqT.other := by kernel_rfl
@[go_sem] theorem cv78 : cvTOf Tryz.prog 78 = CvT.other := by kernel_rfl
@[go_sem] theorem sz79 : szOf Tryz.prog 79 = some Sz.one := by kernel_rfl
@[go_sem] theorem zo79 : zeroOf Tryz.prog 79 = some (Sz.one, SV.one (SC.pv PV.nilfn)) := by kernel_rfl
@[go_sem] theorem eq79 : eqTOf Tryz.prog 79 = EqT.other := by kernel_rfl
@[go_sem] theorem cv79 : cvTOf Tryz.prog 79 = CvT.other := by kernel_rfl
@[go_sem] theorem sz80 : szOf Tryz.prog 80 = some Sz.one := by kernel_rfl
@[go_sem] theorem zo80 : zeroOf Tryz.prog 80 = some (Sz.one, SV.one (SC.pv PV.nilfn)) := by kernel_rfl
@[go_sem] theorem eq80 : eqTOf Tryz.prog 80 = EqT.other := by kernel_rfl
@[go_sem] theorem cv80 : cvTOf Tryz.prog 80 = CvT.other := by kernel_rfl
@[go_sem] theorem sz81 : szOf Tryz.prog 81 = some Sz.one := by kernel_rfl
@[go_sem] theorem zo81 : zeroOf Tryz.prog 81 = some (Sz.one, SV.one (SC.pv PV.nilfn)) := by kernel_rfl
@[go_sem] theorem eq81 : eqTOf Tryz.prog 81 = EqT.other := by kernel_rfl
@[go_sem] theorem cv81 : cvTOf Tryz.prog 81 = CvT.other := by kernel_rfl
@[go_sem] theorem sz82 : szOf Tryz.prog 82 = some Sz.one := by kernel_rfl
@[go_sem] theorem zo82 : zeroOf Tryz.prog 82 = some (Sz.one, SV.one (SC.pv PV.nilfn)) := by kernel_rfl
@[go_sem] theorem eq82 : eqTOf Tryz.prog 82 = EqT.other := by kernel_rfl
@[go_sem] theorem cv82 : cvTOf Tryz.prog 82 = CvT.other := by kernel_rfl
@[go_sem] theorem sz83 : szOf Tryz.prog 83 = some Sz.one := by kernel_rfl
@[go_sem] theorem zo83 : zeroOf Tryz.prog 83 = some (Sz.one, SV.one (SC.pv PV.nilfn)) := by kernel_rfl
@[go_sem] theorem eq83 : eqTOf Tryz.prog 83 = EqT.other := by kernel_rfl
@[go_sem] theorem cv83 : cvTOf Tryz.prog 83 = CvT.other := by kernel_rfl
@[go_sem] theorem sz84 : szOf Tryz.prog 84 = some Sz.one := by kernel_rfl
@[go_sem] theorem zo84 : zeroOf Tryz.prog 84 = some (Sz.one, SV.one (SC.pv PV.nilfn)) := by kernel_rfl
@[go_sem] theorem eq84 : eqTOf Tryz.prog 84 = EqT.other := by kernel_rfl
@[go_sem] theorem cv84 : cvTOf Tryz.prog 84 = CvT.other := by kernel_rfl
@[go_sem] theorem sz85 : szOf Tryz.prog 85 = some Sz.one := by kernel_rfl
@[go_sem] theorem zo85 : zeroOf Tryz.prog 85 = some (Sz.one, SV.one (SC.pv PV.nilfn)) := by kernel_rfl
@[go_sem] theorem eq85 : eqTOf Tryz.prog 85 = EqT.other := by kernel_rfl
@[go_sem] theorem cv85 : cvTOf Tryz.prog 85 = CvT.other := by kernel_rfl
@[go_sem] theorem sz86 : szOf Tryz.prog 86 = some Sz.one := by kernel_rfl
@[go_sem] theorem zo86 : zeroOf Tryz.prog 86 = some (Sz.one, SV.one (SC.pv PV.nilfn)) := by kernel_rfl
@[go_sem] theorem eq86 : eqTOf Tryz.prog 86 = EqT.other := by kernel_rfl
@[go_sem] theorem cv86 : cvTOf Tryz.prog 86 = CvT.other := by kernel_rfl
@[go_sem] theorem sz87 : szOf Tryz.prog 87 = some Sz.one := by kernel_rfl
@[go_sem] theorem zo87 : zeroOf Tryz.prog 87 = some (Sz.one, SV.one (SC.pv PV.nilfn)) := by kernel_rfl
@[go_sem] theorem eq87 : eqTOf Tryz.prog 87 = EqT.other := by kernel_rfl
@[go_sem] theorem cv87 : cvTOf Tryz.prog 87 = CvT.other := by kernel_rfl
@[go_sem] theorem sz88 : szOf Tryz.prog 88 = some Sz.one := by kernel_rfl
@[go_sem] theorem zo88 : zeroOf Tryz.prog 88 = some (Sz.one, SV.one (SC.pv PV.nilfn)) := by kernel_rfl
@[go_sem] theorem eq88 : eqTOf Tryz.prog 88 = EqT.other := by kernel_rfl
@[go_sem] theorem cv88 : cvTOf Tryz.prog 88 = CvT.other := by kernel_rfl
@[go_sem] theorem sz89 : szOf Tryz.prog 89 = some Sz.one := by kernel_rfl
@[go_sem] theorem el89 : elemOf Tryz.prog 89 = some 5 := by kernel_rfl
@[go_sem] theorem es89 : elemSz Tryz.prog 89 = some (Sz.one, 1) := by kernel_rfl
@[go_sem] theorem zo89 : zeroOf Tryz.prog 89 = some (Sz.one, SV.one SC.nilS) := by kernel_rfl
@[go_sem] theorem eq89 : eqTOf Tryz.prog 89 = EqT.other := by kernel_rfl
@[go_sem] theorem cv89 : cvTOf Tryz.prog 89 = CvT.bytes := by kernel_rfl
@[go_sem] theorem sz90 : szOf Tryz.prog 90 = some Sz.one := by kernel_rfl
@[go_sem] theorem zo90 : zeroOf Tryz.prog 90 = some (Sz.one, SV.one (SC.pv PV.nilfn)) := by kernel_rfl
@[go_sem] theorem eq90 : eqTOf Tryz.prog 90 = EqT.other := by kernel_rfl
@[go_sem] theorem cv90 : cvTOf Tryz.prog 90 = CvT.other := by kernel_rfl
@[go_sem] theorem sz91 : szOf Tryz.prog 91 = some Sz.one := by kernel_rfl
@[go_sem] theorem zo91 : zeroOf Tryz.prog 91 = some (Sz.one, SV.one (SC.pv PV.nilfn)) := by kernel_rfl
@[go_sem] theorem eq91 : eqTOf Tryz.prog 91 = EqT.other := by kernel_rfl
@[go_sem] theorem cv91 : cvTOf Tryz.prog 91 = CvT.other := by kernel_rfl
@[go_sem] theorem sz92 : szOf Tryz.prog 92 = some Sz.one := by kernel_rfl
@[go_sem] theorem zo92 : zeroOf Tryz.prog 92 = some (Sz.one, SV.one (SC.pv (PV.int IntKind.u64 0))) := by kernel_rfl
@[go_sem] theorem eq92 : eqTOf Tryz.prog 92 = EqT.other := by kernel_rfl
@[go_sem] theorem cv92 : cvTOf Tryz.prog 92 = CvT.int IntKind.u64 := by kernel_rfl
@[go_sem] theorem sz93 : szOf Tryz.prog 93 = some Sz.one := by kernel_rfl
@[go_sem] theorem zo93 : zeroOf Tryz.prog 93 = some (Sz.one, SV.one (SC.pv PV.nilfn)) := by kernel_rfl
@[go_sem] theorem eq93 : eqTOf Tryz.prog 93 = EqT.other := by kernel_rfl
@[go_sem] theorem cv93 : cvTOf Tryz.prog 93 = CvT.other := by kernel_rfl
@[go_sem] theorem sz94 : szOf Tryz.prog 94 = some Sz.one := by kernel_rfl
@[go_sem] theorem zo94 : zeroOf Tryz.prog 94 = some (Sz.one, SV.one (SC.pv PV.nilfn)) := by kernel_rfl
@[go_sem] theorem eq94 : eqTOf Tryz.prog 94 = EqT.other := by kernel_rfl
@[go_sem] theorem cv94 : cvTOf Tryz.prog 94 = CvT.other := by kernel_rfl
@[go_sem] theorem sz95 : szOf Tryz.prog 95 = some Sz.one := by kernel_rfl
@[go_sem] theorem zo95 : zeroOf Tryz.prog 95 = some (Sz.one, SV.one (SC.pv PV.nilfn)) := by kernel_rfl
@[go_sem] theorem eq95 : eqTOf Tryz.prog 95 = EqT.other := by kernel_rfl
@[go_sem] theorem cv95 : cvTOf Tryz.prog 95 = CvT.other := by kernel_rfl
@[go_sem] theorem sz96 : szOf Tryz.prog 96 = some Sz.one := by kernel_rfl
@[go_sem] theorem eq96 : eqTOf Tryz.prog 96 = EqT.other := by kernel_rfl
@[go_sem] theorem cv96 : cvTOf Tryz.prog 96 = CvT.other := by kernel_rfl
@[go_sem] theorem sz97 : szOf Tryz.prog 97 = some Sz.one := by kernel_rfl
@[go_sem] theorem zo97 : zeroOf Tryz.prog 97 = some (Sz.one, SV.one (SC.pv PV.nilfn)) := by kernel_rfl
@[go_sem] theorem eq97 : eqTOf Tryz.prog 97 = EqT.other := by kernel_rfl
@[go_sem] theorem cv97 : cvTOf Tryz.prog 97 = CvT.other := by kernel_rfl
@[go_sem] theorem sz98 : szOf Tryz.prog 98 = some Sz.one := by kernel_rfl
@[go_sem] theorem eq98 : eqTOf Tryz.prog 98 = EqT.other := by kernel_rfl
@[go_sem] theorem cv98 : cvTOf Tryz.prog 98 = CvT.other := by kernel_rfl
@[go_sem] theorem sz99 : szOf Tryz.prog 99 = some Sz.one := by kernel_rfl
@[go_sem] theorem zo99 : zeroOf Tryz.prog 99 = some (Sz.one, SV.one (SC.pv PV.nilfn)) := by kernel_rfl
@[go_sem] theorem eq99 : eqTOf Tryz.prog 99 = EqT.other := by kernel_rfl
@[go_sem] theorem cv99 : cvTOf Tryz.prog 99 = CvT.other := by kernel_rfl
@[go_sem] theorem sz100 : szOf Tryz.prog 100 = some Sz.one := by kernel_rfl
@[go_sem] theorem eq100 : eqTOf Tryz.prog 100 = EqT.other := by kernel_rfl
@[go_sem] theorem cv100 : cvTOf Tryz.prog 100 = CvT.other := by kernel_rfl
@[go_sem] theorem sz101 : szOf Tryz.prog 101 = some Sz.one := by kernel_rfl
@[go_sem] theorem zo101 : zeroOf Tryz.prog 101 = some (Sz.one, SV.one (SC.pv PV.nilfn)) := by kernel_rfl
@[go_sem] theorem eq101 : eqTOf Tryz.prog 101 = EqT.other := by kernel_rfl
@[go_sem] theorem cv101 : cvTOf Tryz.prog 101 = CvT.other := by kernel_rfl
@[go_sem] theorem sz102 : szOf Tryz.prog 102 = some Sz.one := by kernel_rfl
@[go_sem] theorem zo102 : zeroOf Tryz.prog 102 = some (Sz.one, SV.one (SC.pv (PV.int IntKind.i64 0))) := by kernel_rfl
@[go_sem] theorem eq102 : eqTOf Tryz.prog 102 = EqT.other := by kernel_rfl
@[go_sem] theorem cv102 : cvTOf Tryz.prog 102 = CvT.int IntKind.i64 := by kernel_rfl
@[go_sem] theorem sz103 : szOf Tryz.prog 103 = some Sz.one := by kernel_rfl
@[go_sem] theorem zo103 : zeroOf Tryz.prog 103 = some (Sz.one, SV.one (SC.pv PV.nilfn)) := by kernel_rfl
@[go_sem] theorem eq103 : eqTOf Tryz.prog 103 = EqT.other := by kernel_rfl
@[go_sem] theorem cv103 : cvTOf Tryz.prog 103 = CvT.other := by kernel_rfl
@[go_sem] theorem sz104 : szOf Tryz.prog 104 = some Sz.one := by kernel_rfl
@[go_sem] theorem zo104 : zeroOf Tryz.prog 104 = some (Sz.one, SV.one (SC.pv PV.nilfn)) := by kernel_rfl
@[go_sem] theorem eq104 : eqTOf Tryz.prog 104 = EqT.other := by kernel_rfl
@[go_sem] theorem cv104 : cvTOf Tryz.prog 104 = CvT.other := by kernel_rfl
@[go_sem] theorem sz105 : szOf Tryz.prog 105 = some Sz.one := by kernel_rfl
@[go_sem] theorem zo105 : zeroOf Tryz.prog 105 = some (Sz.one, SV.one (SC.pv PV.nilfn)) := by kernel_rfl
@[go_sem] theorem eq105 : eqTOf Tryz.prog 105 = EqT.other := by kernel_rfl
@[go_sem] theorem cv105 : cvTOf Tryz.prog 105 = CvT.other := by kernel_rfl
@[go_sem] theorem sz106 : szOf Tryz.prog 106 = some Sz.one := by kernel_rfl
@[go_sem] theorem zo106 : zeroOf Tryz.prog 106 = some (Sz.one, SV.one (SC.pv (PV.int IntKind.i64 0))) := by kernel_rfl
@[go_sem] theorem eq106 : eqTOf Tryz.prog 106 = EqT.other := by kernel_rfl
@[go_sem] theorem cv106 : cvTOf Tryz.prog 106 = CvT.int IntKind.i64 := by kernel_rfl
@[go_sem] theorem sz107 : szOf Tryz.prog 107 = some Sz.one := by kernel_rfl
@[go_sem] theorem eq107 : eqTOf Tryz.prog 107 = EqT.other := by kernel_rfl
@[go_sem] theorem cv107 : cvTOf Tryz.prog 107 = CvT.other := by kernel_rfl
@[go_sem] theorem sz108 : szOf Tryz.prog 108 = some Sz.one := by kernel_rfl
@[go_sem] theorem zo108 : zeroOf Tryz.prog 108 = some (Sz.one, SV.one (SC.pv PV.nilfn)) := by kernel_rfl
@[go_sem] theorem eq108 : eqTOf Tryz.prog 108 = EqT.other := by kernel_rfl
@[go_sem] theorem cv108 : cvTOf Tryz.prog 108 = CvT.other := by kernel_rfl
@[go_sem] theorem sz109 : szOf Tryz.prog 109 = some Sz.one := by kernel_rfl
@[go_sem] theorem zo109 : zeroOf Tryz.prog 109 = some (Sz.one, SV.one (SC.pv PV.nilfn)) := by kernel_rfl
@[go_sem] theorem eq109 : eqTOf Tryz.prog 109 = EqT.other := by kernel_rfl
@[go_sem] theorem cv109 : cvTOf Tryz.prog 109 = CvT.other := by kernel_rfl
@[go_sem] theorem sz110 : szOf Tryz.prog 110 = some Sz.one := by kernel_rfl
@[go_sem] theorem zo110 : zeroOf Tryz.prog 110 = some (Sz.one, SV.one (SC.pv PV.nilfn)) := by kernel_rfl
@[go_sem] theorem eq110 : eqTOf Tryz.prog 110 = EqT.other := by kernel_rfl
@[go_sem] theorem cv110 : cvTOf Tryz.prog 110 = CvT.other := by kernel_rfl
@[go_sem] theorem sz111 : szOf Tryz.prog 111 = some Sz.one := by kernel_rfl
@[go_sem] theorem zo111 : zeroOf Tryz.prog 111 = some (Sz.one, SV.one (SC.pv PV.nilfn)) := by kernel_rfl
@[go_sem] theorem eq111 : eqTOf Tryz.prog 111 = EqT.other := by kernel_rfl
@[go_sem] theorem cv111 : cvTOf Tryz.prog 111 = CvT.other := by kernel_rfl
@[go_sem] theorem sz112 : szOf Tryz.prog 112 = some Sz.one := by kernel_rfl
@[go_sem] theorem zo112 : zeroOf Tryz.prog 112 = some (Sz.one, SV.one (SC.pv PV.nilfn)) := by kernel_rfl
@[go_sem] theorem eq112 : eqTOf Tryz.prog 112 = EqT.other := by kernel_rfl
@[go_sem] theorem cv112 : cvTOf Tryz.prog 112 = CvT.other := by kernel_rfl
@[go_sem] theorem sz113 : szOf Tryz.prog 113 = some Sz.one := by kernel_rfl
@[go_sem] theorem zo113 : zeroOf Tryz.prog 113 = some (Sz.one, SV.one (SC.pv PV.nilfn)) := by kernel_rfl
@[go_sem] theorem eq113 : eqTOf Tryz.prog 113 = EqT.other := by kernel_rfl
@[go_sem] theorem cv113 : cvTOf Tryz.prog 113 = CvT.other := by kernel_rfl
@[go_sem] theorem sz114 : szOf Tryz.prog 114 = some Sz.one := by kernel_rfl
@[go_sem] theorem zo114 : zeroOf Tryz.prog 114 = some (Sz.one, SV.one (SC.pv (PV.int IntKind.u32 0))) := by kernel_rfl
@[go_sem] theorem eq114 : eqTOf Tryz.prog 114 = EqT.other := by kernel_rfl
@[go_sem] theorem cv114 : cvTOf Tryz.prog 114 = CvT.int IntKind.u32 := by kernel_rfl
@[go_sem] theorem sz115 : szOf Tryz.prog 115 = some Sz.one := by kernel_rfl
@[go_sem] theorem zo115 : zeroOf Tryz.prog 115 = some (Sz.one, SV.one (SC.pv PV.nilfn)) := by kernel_rfl
@[go_sem] theorem eq115 : eqTOf Tryz.prog 115 = EqT.other := by kernel_rfl
@[go_sem] theorem cv115 : cvTOf Tryz.prog 115 = CvT.other := by kernel_rfl
@[go_sem] theorem sz116 : szOf Tryz.prog 116 = some Sz.one := by kernel_rfl
@[go_sem] theorem zo116 : zeroOf Tryz.prog 116 = some (Sz.one, SV.one (SC.pv (PV.int IntKind.u64 0))) := by kernel_rfl
@[go_sem] theorem eq116 : eqTOf Tryz.prog 116 = EqT.other := by kernel_rfl
@[go_sem] theorem cv116 : cvTOf Tryz.prog 116 = CvT.int IntKind.u64 := by kernel_rfl
@[go_sem] theorem sz117 : szOf Tryz.prog 117 = some Sz.one := by kernel_rfl
@[go_sem] theorem zo117 : zeroOf Tryz.prog 117 = some (Sz.one, SV.one (SC.pv PV.nili)) := by kernel_rfl
@[go_sem] theorem eq117 : eqTOf Tryz.prog 117 = EqT.iface := by kernel_rfl
@[go_sem] theorem cv117 : cvTOf Tryz.prog 117 = CvT.other := by kernel_rfl
@[go_sem] theorem sz118 : szOf Tryz.prog 118 = some Sz.one := by kernel_rfl
@[go_sem] theorem zo118 : zeroOf Tryz.prog 118 = some (Sz.one, SV.one (SC.pv PV.nili)) := by kernel_rfl
@[go_sem] theorem eq118 : eqTOf Tryz.prog 118 = EqT.iface := by kernel_rfl
@[go_sem] theorem cv118 : cvTOf Tryz.prog 118 = CvT.other := by kernel_rfl
@[go_sem] theorem sz119 : szOf Tryz.prog 119 = some Sz.one := by kernel_rfl
@[go_sem] theorem eq119 : eqTOf Tryz.prog 119 = EqT.other := by kernel_rfl
@[go_sem] theorem cv119 : cvTOf Tryz.prog 119 = CvT.other := by kernel_rfl
@[go_sem] theorem sz120 : szOf Tryz.prog 120 = some Sz.one := by kernel_rfl
@[go_sem] theorem zo120 : zeroOf Tryz.prog 120 = some (Sz.one, SV.one (SC.pv PV.nilfn)) := by kernel_rfl
@[go_sem] theorem eq120 : eqTOf Tryz.prog 120 = EqT.other := by kernel_rfl
@[go_sem] theorem cv120 : cvTOf Tryz.prog 120 = CvT.other := by kernel_rfl
@[go_sem] theorem sz121 : szOf Tryz.prog 121 = some Sz.one := by kernel_rfl
@[go_sem] theorem zo121 : zeroOf Tryz.prog 121 = some (Sz.one, SV.one (SC.pv PV.nilfn)) := by kernel_rfl
@[go_sem] theorem eq121 : eqTOf Tryz.prog 121 = EqT.other := by kernel_rfl
@[go_sem] theorem cv121 : cvTOf Tryz.prog 121 = CvT.other := by kernel_rfl
@[go_sem] theorem eq122 : eqTOf Tryz.prog 122 = EqT.other := by kernel_rfl
@[go_sem] theorem cv122 : cvTOf Tryz.prog 122 = CvT.other := by kernel_rfl
@[go_sem] theorem sz123 : szOf Tryz.prog 123 = some Sz.one := by kernel_rfl
@[go_sem] theorem zo123 : zeroOf Tryz.prog 123 = some (Sz.one, SV.one (SC.pv PV.nilfn)) := by kernel_rfl
@[go_sem] theorem eq123 : eqTOf Tryz.prog 123 = EqT.other := by kernel_rfl
@[go_sem] theorem cv123 : cvTOf Tryz.prog 123 = CvT.other := by kernel_rfl
@[go_sem] theorem sz124 : szOf Tryz.prog 124 = some Sz.one := by kernel_rfl
@[go_sem] theorem eq124 : eqTOf Tryz.prog 124 = EqT.other := by kernel_rfl
@[go_sem] theorem cv124 : cvTOf Tryz.prog 124 = CvT.other := by kernel_rfl
@[go_sem] theorem sz125 : szOf Tryz.prog 125 = some Sz.one := by kernel_rfl
@[go_sem] theorem zo125 : zeroOf Tryz.prog 125 = some (Sz.one, SV.one (SC.pv PV.nilfn)) := by kernel_rfl
@[go_sem] theorem eq125 : eqTOf Tryz.prog 125 = EqT.other := by kernel_rfl
@[go_sem] theorem cv125 : cvTOf Tryz.prog 125 = CvT.other := by kernel_rfl
@[go_sem] theorem sz126 : szOf Tryz.prog 126 = some Sz.one := by kernel_rfl
@[go_sem] theorem zo126 : zeroOf Tryz.prog 126 = some (Sz.one, SV.one (SC.pv (PV.int IntKind.u64 0))) := by kernel_rfl
@[go_sem] theorem eq126 : eqTOf Tryz.prog 126 = EqT.other := by kernel_rfl
@[go_sem] theorem cv126 : cvTOf Tryz.prog 126 = CvT.int IntKind.u64 := by kernel_rfl
@[go_sem] theorem sz127 : szOf Tryz.prog 127 = some Sz.one := by kernel_rfl
@[go_sem] theorem zo127 : zeroOf Tryz.prog 127 = some (Sz.one, SV.one (SC.pv PV.nilfn)) := by kernel_rfl
@[go_sem] theorem eq127 : eqTOf Tryz.prog 127 = EqT.other := by kernel_rfl
@[go_sem] theorem cv127 : cvTOf Tryz.prog 127 = CvT.other := by kernel_rfl
@[go_sem] theorem sz128 : szOf Tryz.prog 128 = some Sz.one := by kernel_rfl
@[go_sem] theorem zo128 : zeroOf Tryz.prog 128 = some (Sz.one, SV.one (SC.pv PV.nilfn)) := by kernel_rfl
@[go_sem] theorem eq128 : eqTOf Tryz.prog 128 = EqT.other := by kernel_rfl
@[go_sem] theorem cv128 : cvTOf Tryz.prog 128 = CvT.other := by kernel_rfl
@[go_sem] theorem sz129 : szOf Tryz.prog 129 = some Sz.one := by kernel_rfl
@[go_sem] theorem zo129 : zeroOf Tryz.prog 129 = some (Sz.one, SV.one (SC.pv PV.nilfn)) := by kernel_rfl
@[go_sem] theorem eq129 : eqTOf Tryz.prog 129 = EqT.other := by kernel_rfl
@[go_sem] theorem cv129 : cvTOf Tryz.prog 129 = CvT.other := by kernel_rfl
@[go_sem] theorem sz130 : szOf Tryz.prog 130 = some Sz.one := by kernel_rfl
@[go_sem] theorem zo130 : zeroOf Tryz.prog 130 = some (Sz.one, SV.one (SC.pv PV.nilp)) := by kernel_rfl
@[go_sem] theorem eq130 : eqTOf Tryz.prog 130 = EqT.ptr := by kernel_rfl
@[go_sem] theorem cv130 : cvTOf Tryz.prog 130 = CvT.other := by kernel_rfl
@[go_sem] theorem sz131 : szOf Tryz.prog 131 = some Sz.one := by kernel_rfl
@[go_sem] theorem zo131 : zeroOf Tryz.prog 131 = some (Sz.one, SV.one (SC.pv PV.nilfn)) := by kernel_rfl
@[go_sem] theorem eq131 : eqTOf Tryz.prog 131 = EqT.other := by kernel_rfl
@[go_sem] theorem cv131 : cvTOf Tryz.prog 131 = CvT.other := by kernel_rfl
@[go_sem] theorem sz132 : szOf Tryz.prog 132 = some Sz.one := by kernel_rfl
@[go_sem] theorem zo132 : zeroOf Tryz.prog 132 = some (Sz.one, SV.one (SC.pv PV.nilfn)) := by kernel_rfl
@[go_sem] theorem eq132 : eqTOf Tryz.prog 132 = EqT.other := by kernel_rfl
@[go_sem] theorem cv132 : cvTOf Tryz.prog 132 = CvT.other := by kernel_rfl
@[go_sem] theorem sz133 : szOf Tryz.prog 133 = some Sz.one := by kernel_rfl
@[go_sem] theorem zo133 : zeroOf Tryz.prog 133 = some (Sz.one, SV.one (SC.pv PV.nilfn)) := by kernel_rfl
@[go_sem] theorem eq133 : eqTOf Tryz.prog 133 = EqT.other := by kernel_rfl
@[go_sem] theorem cv133 : cvTOf Tryz.prog 133 = CvT.other := by kernel_rfl
@[go_sem] theorem sz134 : szOf Tryz.prog 134 = some Sz.one := by kernel_rfl
@[go_sem] theorem zo134 : zeroOf Tryz.prog 134 = some (Sz.one, SV.one (SC.pv PV.nilfn)) := by kernel_rfl
@[go_sem] theorem eq134 : eqTOf Tryz.prog 134 = EqT.other := by kernel_rfl
@[go_sem] theorem cv134 : cvTOf Tryz.prog 134 = CvT.other := by kernel_rfl
@[go_sem] theorem sz135 : szOf Tryz.prog 135 = some Sz.one := by kernel_rfl
@[go_sem] theorem zo135 : zeroOf Tryz.prog 135 = some (Sz.one, SV.one (SC.pv PV.nilfn)) := by kernel_rfl
@[go_sem] theorem eq135 : eqTOf Tryz.prog 135 = EqT.other := by kernel_rfl
@[go_sem] theorem cv135 : cvTOf Tryz.prog 135 = CvT.other := by kernel_rfl
@[go_sem] theorem eq136 : eqTOf Tryz.prog 136 = EqT.other := by kernel_rfl
@[go_sem] theorem cv136 : cvTOf Tryz.prog 136 = CvT.other := by kernel_rfl
@[go_sem] theorem eq137 : eqTOf Tryz.prog 137 = EqT.other := by kernel_rfl
@[go_sem] theorem cv137 : cvTOf Tryz.prog 137 = CvT.other := by kernel_rfl
@[go_sem] theorem sz138 : szOf Tryz.prog 138 = some Sz.one := by kernel_rfl
@[go_sem] theorem zo138 : zeroOf Tryz.prog 138 = some (Sz.one, SV.one (SC.pv PV.nilp)) := by kernel_rfl
@[go_sem] theorem eq138 : eqTOf Tryz.prog 138 = EqT.ptr := by kernel_rfl
@[go_sem] theorem cv138 : cvTOf Tryz.prog 138 = CvT.other := by kernel_rfl
@[go_sem] theorem sz139 : szOf Tryz.prog 139 = some Sz.one := by kernel_rfl
@[go_sem] theorem eq139 : eqTOf Tryz.prog 139 = EqT.other := by kernel_rfl
@[go_sem] theorem cv139 : cvTOf Tryz.prog 139 = CvT.other := by kernel_rfl
@[go_sem] theorem sz140 : szOf Tryz.prog 140 = some Sz.one := by kernel_rfl
@[go_sem] theorem zo140 : zeroOf Tryz.prog 140 = some (Sz.one, SV.one (SC.pv PV.nilfn)) := by kernel_rfl
@[go_sem] theorem eq140 : eqTOf Tryz.prog 140 = EqT.other := by kernel_rfl
@[go_sem] theorem cv140 : cvTOf Tryz.prog 140 = CvT.other := by kernel_rfl
@[go_sem] theorem sz141 : szOf Tryz.prog 141 = some Sz.one := by kernel_rfl
@[go_sem] theorem zo141 : zeroOf Tryz.prog 141 = some (Sz.one, SV.one (SC.pv PV.nilfn)) := by kernel_rfl
@[go_sem] theorem eq141 : eqTOf Tryz.prog 141 = EqT.other := by kernel_rfl
@[go_sem] theorem cv141 : cvTOf Tryz.prog 141 = CvT.other := by kernel_rfl
@[go_sem] theorem sz142 : szOf Tryz.prog 142 = some Sz.one := by kernel_rfl
@[go_sem] theorem zo142 : zeroOf Tryz.prog 142 = some (Sz.one, SV.one (SC.pv (PV.int IntKind.i64 0))) := by kernel_rfl
@[go_sem] theorem eq142 : eqTOf Tryz.prog 142 = EqT.other := by kernel_rfl
@[go_sem] theorem cv142 : cvTOf Tryz.prog 142 = CvT.int IntKind.i64 := by kernel_rfl
@[go_sem] theorem sz143 : szOf Tryz.prog 143 = some Sz.one := by kernel_rfl
@[go_sem] theorem eq143 : eqTOf Tryz.prog 143 = EqT.other := by kernel_rfl
@[go_sem] theorem cv143 : cvTOf Tryz.prog 143 = CvT.other := by kernel_rfl
@[go_sem] theorem sz144 : szOf Tryz.prog 144 = some Sz.one := by kernel_rfl
@[go_sem] theorem zo144 : zeroOf Tryz.prog 144 = some (Sz.one, SV.one (SC.pv PV.nilfn)) := by kernel_rfl
@[go_sem] theorem eq144 : eqTOf Tryz.prog 144 = EqT.other := by kernel_rfl
@[go_sem] theorem cv144 : cvTOf Tryz.prog 144 = CvT.other := by kernel_rfl
@[go_sem] theorem sz145 : szOf Tryz.prog 145 = some Sz.one := by kernel_rfl
@[go_sem] theorem zo145 : zeroOf Tryz.prog 145 = some (Sz.one, SV.one (SC.pv PV.nilp)) := by kernel_rfl
@[go_sem] theorem eq145 : eqTOf Tryz.prog 145 = EqT.ptr := by kernel_rfl
@[go_sem] theorem cv145 : cvTOf Tryz.prog 145 = CvT.other := by kernel_rfl
@[go_sem] theorem sz146 : szOf Tryz.prog 146 = some Sz.one := by kernel_rfl
@[go_sem] theorem zo146 : zeroOf Tryz.prog 146 = some (Sz.one, SV.one (SC.pv PV.nilfn)) := by kernel_rfl
@[go_sem] theorem eq146 : eqTOf Tryz.prog 146 = EqT.other := by kernel_rfl
@[go_sem] theorem cv146 : cvTOf Tryz.prog 146 = CvT.other := by kernel_rfl
@[go_sem] theorem sz147 : szOf Tryz.prog 147 = some Sz.one := by kernel_rfl
@[go_sem] theorem zo147 : zeroOf Tryz.prog 147 = some (Sz.one, SV.one (SC.pv PV.nilfn)) := by kernel_rfl
@[go_sem] theorem eq147 : eqTOf Tryz.prog 147 = EqT.other := by kernel_rfl
@[go_sem] theorem cv147 : cvTOf Tryz.prog 147 = CvT.other := by kernel_rfl
@[go_sem] theorem sz148 : szOf Tryz.prog 148 = some Sz.one := by kernel_rfl
@[go_sem] theorem eq148 : eqTOf Tryz.prog 148 = EqT.other := by kernel_rfl
@[go_sem] theorem cv148 : cvTOf Tryz.prog 148 = CvT.other := by kernel_rfl
@[go_sem] theorem sz149 : szOf Tryz.prog 149 = some Sz.one := by kernel_rfl
@[go_sem] theorem zo149 : zeroOf Tryz.prog 149 = some (Sz.one, SV.one (SC.pv PV.nilfn)) := by kernel_rfl
@[go_sem] theorem eq149 : eqTOf Tryz.prog 149 = EqT.other := by kernel_rfl
@[go_sem] theorem cv149 : cvTOf Tryz.prog 149 = CvT.other := by kernel_rfl
@[go_sem] theorem sz150 : szOf Tryz.prog 150 = some Sz.one := by kernel_rfl
@[go_sem] theorem eq150 : eqTOf Tryz.prog 150 = EqT.other := by kernel_rfl
@[go_sem] theorem cv150 : cvTOf Tryz.prog 150 = CvT.other := by kernel_rfl
@[go_sem] theorem sz151 : szOf Tryz.prog 151 = some Sz.one := by kernel_rfl
@[go_sem] theorem zo151 : zeroOf Tryz.prog 151 = some (Sz.one, SV.one (SC.pv PV.nilfn)) := by kernel_rfl
@[go_sem] theorem eq151 : eqTOf Tryz.prog 151 = EqT.other := by kernel_rfl
@[go_sem] theorem cv151 : cvTOf Tryz.prog 151 = CvT.other := by kernel_rfl
@[go_sem] theorem sz152 : szOf Tryz.prog 152 = some Sz.one := by kernel_rfl
@[go_sem] theorem zo152 : zeroOf Tryz.prog 152 = some (Sz.one, SV.one (SC.pv PV.nilfn)) := by kernel_rfl
@[go_sem] theorem eq152 : eqTOf Tryz.prog 152 = EqT.other := by kernel_rfl
@[go_sem] theorem cv152 : cvTOf Tryz.prog 152 = CvT.other := by kernel_rfl
@[go_sem] theorem sz153 : szOf Tryz.prog 153 = some (Sz.agg 3) := by kernel_rfl
@[go_sem] theorem zo153 : zeroOf Tryz.prog 153 = some (Sz.agg 3, SV.agg [SC.pv (PV.str ByteArray.empty), SC.pv (PV.str ByteArray.empty), SC.pv PV.nili]) := by kernel_rfl
@[go_sem] theorem pl153 : placesOf Tryz.prog 153 = some [(0, Sz.one), (1, Sz.one), (2, Sz.one)] := by kernel_rfl
@[go_sem] theorem eq153 : eqTOf Tryz.prog 153 = EqT.other := by kernel_rfl
@[go_sem] theorem cv153 : cvTOf Tryz.prog 153 = CvT.other := by kernel_rfl
@[go_sem] theorem fo153_0 : fieldOff Tryz.prog 153 0 = some 0 := by kernel_rfl
@[go_sem] theorem fs153_0 : fieldSz Tryz.prog 153 0 = some Sz.one := by kernel_rfl
@[go_sem] theorem fo153_1 : fieldOff Tryz.prog 153 1 = some 1 := by kernel_rfl
@[go_sem] theorem fs153_1 : fieldSz Tryz.prog 153 1 = some Sz.one := by kernel_rfl
@[go_sem] theorem fo153_2 : fieldOff Tryz.prog 153 2 = some 2 := by kernel_rfl
@[go_sem] theorem fs153_2 : fieldSz Tryz.prog 153 2 = some Sz.one := by kernel_rfl
@[go_sem] theorem sz154 : szOf Tryz.prog 154 = some (Sz.agg 3) := by kernel_rfl
@[go_sem] theorem zo154 : zeroOf Tryz.prog 154 = some (Sz.agg 3, SV.agg [SC.pv (PV.str ByteArray.empty), SC.pv (PV.str ByteArray.empty), SC.pv PV.nili]) := by kernel_rfl
@[go_sem] theorem pl154 : placesOf Tryz.prog 154 = some [(0, Sz.one), (1, Sz.one), (2, Sz.one)] := by kernel_rfl
@[go_sem] theorem eq154 : eqTOf Tryz.prog 154 = EqT.other := by kernel_rfl
@[go_sem] theorem cv154 : cvTOf Tryz.prog 154 = CvT.other := by kernel_rfl
@[go_sem] theorem fo154_0 : fieldOff Tryz.prog 154 0 = some 0 := by kernel_rfl
@[go_sem] theorem fs154_0 : fieldSz Tryz.prog 154 0 = some Sz.one := by kernel_rfl
@[go_sem] theorem fo154_1 : fieldOff Tryz.prog 154 1 = some 1 := by kernel_rfl
@[go_sem] theorem fs154_1 : fieldSz Tryz.prog 154 1 = some Sz.one := by kernel_rfl
@[go_sem] theorem fo154_2 : fieldOff Tryz.prog 154 2 = some 2 := by kernel_rfl
@[go_sem] theorem fs154_2 : fieldSz Tryz.prog 154 2 = some Sz.one := by kernel_rfl
@[go_sem] theorem sz155 : szOf Tryz.prog 155 = some Sz.one := by kernel_rfl
@[go_sem] theorem zo155 : zeroOf Tryz.prog 155 = some (Sz.one, SV.one (SC.pv PV.nilfn)) := by kernel_rfl
@[go_sem] theorem eq155 : eqTOf Tryz.prog 155 = EqT.other := by kernel_rfl
@[go_sem] theorem cv155 : cvTOf Tryz.prog 155 = CvT.other := by kernel_rfl
@[go_sem] theorem eq156 : eqTOf Tryz.prog 156 = EqT.other := by kernel_rfl
@[go_sem] theorem cv156 : cvTOf Tryz.prog 156 = CvT.other := by kernel_rfl
@[go_sem] theorem eq157 : eqTOf Tryz.prog 157 = EqT.other := by kernel_rfl
@[go_sem] theorem cv157 : cvTOf Tryz.prog 157 = CvT.other := by kernel_rfl
@[go_sem] theorem sz158 : szOf Tryz.prog 158 = some Sz.one := by kernel_rfl
@[go_sem] theorem zo158 : zeroOf Tryz.prog 158 = some (Sz.one, SV.one (SC.pv PV.nilfn)) := by kernel_rfl
@[go_sem] theorem eq158 : eqTOf Tryz.prog 158 = EqT.other := by kernel_rfl
@[go_sem] theorem cv158 : cvTOf Tryz.prog 158 = CvT.other := by kernel_rfl
@[go_sem] theorem sz159 : szOf Tryz.prog 159 = some Sz.one := by kernel_rfl
@[go_sem] theorem zo159 : zeroOf Tryz.prog 159 = some (Sz.one, SV.one (SC.pv PV.nilp)) := by kernel_rfl
@[go_sem] theorem eq159 : eqTOf Tryz.prog 159 = EqT.ptr := by kernel_rfl
@[go_sem] theorem cv159 : cvTOf Tryz.prog 159 = CvT.other := by kernel_rfl
/-- pilaster/pilasterlaw09.TyconSubsts -/
def ann3 : Ann := ⟨[2], [], [(8, [4]), (5, [4]), (7, [4]), (6, [6, 5, 1, 2, 67]), (4, [6, 5, 1, 2, 52]), (3, [6, 5, 1, 2]), (2, [4]), (1, [1, 2, 44]), (0, [1, 2])], []⟩
@[go_sem] theorem ann3_imm : ann3.imm = [2] := rfl
@[go_sem] theorem ann3_frz : ann3.frz = [] := rfl
@[go_sem] theorem ann3_live : ann3.live = [(8, [4]), (5, [4]), (7, [4]), (6, [6, 5, 1, 2, 67]), (4, [6, 5, 1, 2, 52]), (3, [6, 5, 1, 2]), (2, [4]), (1, [1, 2, 44]), (0, [1, 2])] := rfl
@[go_sem] theorem ann3_head : ann3.head = [] := rfl
/-- pilaster/pilasterlaw09.TyconChecks -/
def ann4 : Ann := ⟨[2, 3], [], [(3, [4]), (2, [4]), (1, [2, 3, 13]), (0, [2, 3])], []⟩
@[go_sem] theorem ann4_imm : ann4.imm = [2, 3] := rfl
@[go_sem] theorem ann4_frz : ann4.frz = [] := rfl
@[go_sem] theorem ann4_live : ann4.live = [(3, [4]), (2, [4]), (1, [2, 3, 13]), (0, [2, 3])] := rfl
@[go_sem] theorem ann4_head : ann4.head = [] := rfl
/-- pilaster/pilasterlaw09.TyconBack -/
def ann5 : Ann := ⟨[5, 9], [], [(16, [10]), (15, [5, 23, 17]), (14, [10]), (13, [15, 5, 9, 22, 107]), (12, [15, 5, 9, 22]), (11, [10]), (10, [5, 9, 100]), (9, [5, 9, 20, 18, 19, 21, 16, 17]), (8, [5, 9, 18, 19, 16, 17, 13, 12, 11]), (7, [5, 9, 16, 17, 13, 12, 11, 14]), (6, [10]), (5, [15, 5, 9, 13, 12, 11, 14, 51]), (4, [15, 5, 9, 13, 12, 11, 14]), (3, [5, 9, 13, 12, 11]), (2, [10]), (1, [5, 9, 3, 2, 1, 32]), (0, [5, 9, 3, 2, 1])], []⟩
@[go_sem] theorem ann5_imm : ann5.imm = [5, 9] := rfl
@[go_sem] theorem ann5_frz : ann5.frz = [] := rfl
@[go_sem] theorem ann5_live : ann5.live = [(16, [10]), (15, [5, 23, 17]), (14, [10]), (13, [15, 5, 9, 22, 107]), (12, [15, 5, 9, 22]), (11, [10]), (10, [5, 9, 100]), (9, [5, 9, 20, 18, 19, 21, 16, 17]), (8, [5, 9, 18, 19, 16, 17, 13, 12, 11]), (7, [5, 9, 16, 17, 13, 12, 11, 14]), (6, [10]), (5, [15, 5, 9, 13, 12, 11, 14, 51]), (4, [15, 5, 9, 13, 12, 11, 14]), (3, [5, 9, 13, 12, 11]), (2, [10]), (1, [5, 9, 3, 2, 1, 32]), (0, [5, 9, 3, 2, 1])] := rfl
@[go_sem] theorem ann5_head : ann5.head = [] := rfl
/-- pilaster/pilasterlaw09.TyconCommute -/
def ann6 : Ann := ⟨[3, 4], [], [(12, [6]), (11, [14, 15, 13, 16]), (10, [14, 13, 9, 11]), (9, [6]), (8, [9, 11, 2, 7, 93]), (7, [6]), (6, [12, 10, 8, 9, 11, 2, 7, 67]), (5, [12, 10, 8, 9, 11, 2, 7]), (4, [10, 8, 9, 2, 7, 3]), (3, [8, 2, 7, 3, 4]), (2, [6]), (1, [2, 3, 4, 35]), (0, [2, 3, 4])], []⟩
@[go_sem] theorem ann6_imm : ann6.imm = [3, 4] := rfl
@[go_sem] theorem ann6_frz : ann6.frz = [] := rfl
@[go_sem] theorem ann6_live : ann6.live = [(12, [6]), (11, [14, 15, 13, 16]), (10, [14, 13, 9, 11]), (9, [6]), (8, [9, 11, 2, 7, 93]), (7, [6]), (6, [12, 10, 8, 9, 11, 2, 7, 67]), (5, [12, 10, 8, 9, 11, 2, 7]), (4, [10, 8, 9, 2, 7, 3]), (3, [8, 2, 7, 3, 4]), (2, [6]), (1, [2, 3, 4, 35]), (0, [2, 3, 4])] := rfl
@[go_sem] theorem ann6_head : ann6.head = [] := rfl
/-- pilaster/pilasterlaw09.TyconBuilds -/
def ann7 : Ann := ⟨[2], [], [(27, [4]), (24, [4]), (26, [4]), (25, [11, 10, 1, 149]), (23, [11, 10, 1, 140]), (19, [4]), (18, [11, 10, 1, 14, 128]), (22, [4]), (21, [11, 10, 1, 14, 139]), (16, [4]), (15, [11, 10, 1, 14, 113]), (20, [11, 10, 1, 14, 6, 5, 2, 129]), (17, [11, 10, 1, 14, 6, 5, 2, 114]), (14, [11, 10, 1, 14, 6, 5, 2]), (10, [4]), (9, [11, 10, 1, 6, 5, 2, 85]), (13, [4]), (12, [11, 10, 1, 6, 5, 2, 104]), (11, [11, 10, 1, 6, 5, 2, 9, 13, 8, 12, 7]), (8, [11, 10, 1, 6, 5, 2, 9, 8, 7, 73]), (7, [4]), (6, [11, 10, 1, 6, 5, 2, 9, 8, 7, 70]), (5, [11, 10, 1, 6, 5, 2, 9, 8, 7]), (4, [1, 6, 5, 2, 9, 8, 7]), (3, [1, 6, 5, 2]), (2, [4]), (1, [1, 2, 42]), (0, [1, 2])], []⟩
@[go_sem] theorem ann7_imm : ann7.imm = [2] := rfl
@[go_sem] theorem ann7_frz : ann7.frz = [] := rfl
@[go_sem] theorem ann7_live : ann7.live = [(27, [4]), (24, [4]), (26, [4]), (25, [11, 10, 1, 149]), (23, [11, 10, 1, 140]), (19, [4]), (18, [11, 10, 1, 14, 128]), (22, [4]), (21, [11, 10, 1, 14, 139]), (16, [4]), (15, [11, 10, 1, 14, 113]), (20, [11, 10, 1, 14, 6, 5, 2, 129]), (17, [11, 10, 1, 14, 6, 5, 2, 114]), (14, [11, 10, 1, 14, 6, 5, 2]), (10, [4]), (9, [11, 10, 1, 6, 5, 2, 85]), (13, [4]), (12, [11, 10, 1, 6, 5, 2, 104]), (11, [11, 10, 1, 6, 5, 2, 9, 13, 8, 12, 7]), (8, [11, 10, 1, 6, 5, 2, 9, 8, 7, 73]), (7, [4]), (6, [11, 10, 1, 6, 5, 2, 9, 8, 7, 70]), (5, [11, 10, 1, 6, 5, 2, 9, 8, 7]), (4, [1, 6, 5, 2, 9, 8, 7]), (3, [1, 6, 5, 2]), (2, [4]), (1, [1, 2, 42]), (0, [1, 2])] := rfl
@[go_sem] theorem ann7_head : ann7.head = [] := rfl
/-- pilaster/pilasterlaw09.awake -/
def ann8 : Ann := ⟨[], [], [(5, [0]), (4, [7, 6, 5, 4, 3, 2]), (3, [5, 4, 3, 2, 1]), (2, [3, 2, 1]), (1, [1]), (0, [])], []⟩
@[go_sem] theorem ann8_imm : ann8.imm = [] := rfl
@[go_sem] theorem ann8_frz : ann8.frz = [] := rfl
@[go_sem] theorem ann8_live : ann8.live = [(5, [0]), (4, [7, 6, 5, 4, 3, 2]), (3, [5, 4, 3, 2, 1]), (2, [3, 2, 1]), (1, [1]), (0, [])] := rfl
@[go_sem] theorem ann8_head : ann8.head = [] := rfl
/-- pilaster/pilasterlaw09.small -/
def ann9 : Ann := ⟨[], [], [(1, [2]), (0, [0])], []⟩
@[go_sem] theorem ann9_imm : ann9.imm = [] := rfl
@[go_sem] theorem ann9_frz : ann9.frz = [] := rfl
@[go_sem] theorem ann9_live : ann9.live = [(1, [2]), (0, [0])] := rfl
@[go_sem] theorem ann9_head : ann9.head = [] := rfl
/-- pilaster/pilasterlaw09.heavy -/
def ann10 : Ann := ⟨[2], [], [(7, [4]), (6, [10, 5, 8, 2, 9]), (5, [5, 8, 2, 9, 10]), (4, [8, 2, 9, 10, 7, 5]), (3, [8, 2, 9, 10, 5, 11]), (2, [10, 5, 8, 2, 9]), (1, [5, 2, 1]), (0, [2, 1])], [(3, [10, 5, 8, 2, 9])]⟩
@[go_sem] theorem ann10_imm : ann10.imm = [2] := rfl
@[go_sem] theorem ann10_frz : ann10.frz = [] := rfl
@[go_sem] theorem ann10_live : ann10.live = [(7, [4]), (6, [10, 5, 8, 2, 9]), (5, [5, 8, 2, 9, 10]), (4, [8, 2, 9, 10, 7, 5]), (3, [8, 2, 9, 10, 5, 11]), (2, [10, 5, 8, 2, 9]), (1, [5, 2, 1]), (0, [2, 1])] := rfl
@[go_sem] theorem ann10_head : ann10.head = [(3, [10, 5, 8, 2, 9])] := rfl
/-- pilaster/tycon.Subst -/
def ann11 : Ann := ⟨[2, 3], [], [(5, [4, 5]), (4, [4, 5]), (3, [4, 3, 2, 17]), (2, [4, 5]), (1, [4, 3, 2, 13]), (0, [4, 3, 2])], []⟩
@[go_sem] theorem ann11_imm : ann11.imm = [2, 3] := rfl
@[go_sem] theorem ann11_frz : ann11.frz = [] := rfl
@[go_sem] theorem ann11_live : ann11.live = [(5, [4, 5]), (4, [4, 5]), (3, [4, 3, 2, 17]), (2, [4, 5]), (1, [4, 3, 2, 13]), (0, [4, 3, 2])] := rfl
@[go_sem] theorem ann11_head : ann11.head = [] := rfl
/-- pilaster/pilasterref09.Valid -/
def ann12 : Ann := ⟨[1], [], [(1, [2]), (0, [1])], []⟩
@[go_sem] theorem ann12_imm : ann12.imm = [1] := rfl
@[go_sem] theorem ann12_frz : ann12.frz = [] := rfl
@[go_sem] theorem ann12_live : ann12.live = [(1, [2]), (0, [1])] := rfl
@[go_sem] theorem ann12_head : ann12.head = [] := rfl
/-- pilaster/pilasterref09.ValidAll -/
def ann13 : Ann := ⟨[], [], [(6, [2]), (3, [3, 0]), (5, [2]), (4, [0, 3, 15]), (2, [0, 3, 7]), (1, [3, 0]), (0, [0])], [(2, [3, 0])]⟩
@[go_sem] theorem ann13_imm : ann13.imm = [] := rfl
@[go_sem] theorem ann13_frz : ann13.frz = [] := rfl
@[go_sem] theorem ann13_live : ann13.live = [(6, [2]), (3, [3, 0]), (5, [2]), (4, [0, 3, 15]), (2, [0, 3, 7]), (1, [3, 0]), (0, [0])] := rfl
@[go_sem] theorem ann13_head : ann13.head = [(2, [3, 0])] := rfl
/-- pilaster/pilasterlaw09.none -/
def ann14 : Ann := ⟨[1], [], [(1, [2]), (0, [1])], []⟩
@[go_sem] theorem ann14_imm : ann14.imm = [1] := rfl
@[go_sem] theorem ann14_frz : ann14.frz = [] := rfl
@[go_sem] theorem ann14_live : ann14.live = [(1, [2]), (0, [1])] := rfl
@[go_sem] theorem ann14_head : ann14.head = [] := rfl
/-- pilaster/pilasterlaw09.answer -/
def ann15 : Ann := ⟨[3, 5], [], [(3, [6]), (2, [6]), (1, [1, 3, 5, 9]), (0, [1, 3, 5])], []⟩
@[go_sem] theorem ann15_imm : ann15.imm = [3, 5] := rfl
@[go_sem] theorem ann15_frz : ann15.frz = [] := rfl
@[go_sem] theorem ann15_live : ann15.live = [(3, [6]), (2, [6]), (1, [1, 3, 5, 9]), (0, [1, 3, 5])] := rfl
@[go_sem] theorem ann15_head : ann15.head = [] := rfl
/-- pilaster/pilasterref09.Subst -/
def ann16 : Ann := ⟨[2], [], [(1, [4]), (0, [4, 1, 2])], []⟩
@[go_sem] theorem ann16_imm : ann16.imm = [2] := rfl
@[go_sem] theorem ann16_frz : ann16.frz = [] := rfl
@[go_sem] theorem ann16_live : ann16.live = [(1, [4]), (0, [4, 1, 2])] := rfl
@[go_sem] theorem ann16_head : ann16.head = [] := rfl
/-- pilaster/tycon.Valid -/
def ann17 : Ann := ⟨[1], [], [(1, [2]), (0, [1])], []⟩
@[go_sem] theorem ann17_imm : ann17.imm = [1] := rfl
@[go_sem] theorem ann17_frz : ann17.frz = [] := rfl
@[go_sem] theorem ann17_live : ann17.live = [(1, [2]), (0, [1])] := rfl
@[go_sem] theorem ann17_head : ann17.head = [] := rfl
/-- pilaster/tycon.Equal -/
def ann18 : Ann := ⟨[2, 3], [], [(1, [4]), (0, [3, 2])], []⟩
@[go_sem] theorem ann18_imm : ann18.imm = [2, 3] := rfl
@[go_sem] theorem ann18_frz : ann18.frz = [] := rfl
@[go_sem] theorem ann18_live : ann18.live = [(1, [4]), (0, [3, 2])] := rfl
@[go_sem] theorem ann18_head : ann18.head = [] := rfl
/-- pilaster/pilasterref09.Same -/
def ann19 : Ann := ⟨[2, 3], [], [(8, [4]), (5, [5, 3, 2]), (7, [4]), (6, [3, 2, 5, 68]), (4, [3, 2, 5, 54]), (3, [5, 3, 2]), (2, [4]), (1, [3, 2, 49]), (0, [3, 2])], [(4, [5, 3, 2])]⟩
@[go_sem] theorem ann19_imm : ann19.imm = [2, 3] := rfl
@[go_sem] theorem ann19_frz : ann19.frz = [] := rfl
@[go_sem] theorem ann19_live : ann19.live = [(8, [4]), (5, [5, 3, 2]), (7, [4]), (6, [3, 2, 5, 68]), (4, [3, 2, 5, 54]), (3, [5, 3, 2]), (2, [4]), (1, [3, 2, 49]), (0, [3, 2])] := rfl
@[go_sem] theorem ann19_head : ann19.head = [(4, [5, 3, 2])] := rfl
/-- pilaster/tycon.Size -/
def ann20 : Ann := ⟨[1], [], [(7, [2]), (6, [9, 3, 7, 8]), (5, [3, 7, 8, 9]), (4, [7, 8, 9, 5, 3]), (3, [7, 8, 9, 3, 10]), (2, [9, 3, 7, 8]), (1, [3, 1]), (0, [1])], [(3, [9, 3, 7, 8])]⟩
@[go_sem] theorem ann20_imm : ann20.imm = [1] := rfl
@[go_sem] theorem ann20_frz : ann20.frz = [] := rfl
@[go_sem] theorem ann20_live : ann20.live = [(7, [2]), (6, [9, 3, 7, 8]), (5, [3, 7, 8, 9]), (4, [7, 8, 9, 5, 3]), (3, [7, 8, 9, 3, 10]), (2, [9, 3, 7, 8]), (1, [3, 1]), (0, [1])] := rfl
@[go_sem] theorem ann20_head : ann20.head = [(3, [9, 3, 7, 8])] := rfl
/-- pilaster/pilasterref09.Size -/
def ann21 : Ann := ⟨[1], [], [(6, [2]), (4, [4, 1, 3]), (5, [1, 3, 4]), (3, [1, 4, 3, 9]), (2, [4, 1, 3]), (1, [1, 3]), (0, [1])], [(3, [4, 1, 3])]⟩
@[go_sem] theorem ann21_imm : ann21.imm = [1] := rfl
@[go_sem] theorem ann21_frz : ann21.frz = [] := rfl
@[go_sem] theorem ann21_live : ann21.live = [(6, [2]), (4, [4, 1, 3]), (5, [1, 3, 4]), (3, [1, 4, 3, 9]), (2, [4, 1, 3]), (1, [1, 3]), (0, [1])] := rfl
@[go_sem] theorem ann21_head : ann21.head = [(3, [4, 1, 3])] := rfl
/-- pilaster/pilasterlaw09.tiny -/
def ann22 : Ann := ⟨[], [], [(1, [2]), (0, [0])], []⟩
@[go_sem] theorem ann22_imm : ann22.imm = [] := rfl
@[go_sem] theorem ann22_frz : ann22.frz = [] := rfl
@[go_sem] theorem ann22_live : ann22.live = [(1, [2]), (0, [0])] := rfl
@[go_sem] theorem ann22_head : ann22.head = [] := rfl
/-- pilaster/tycon.Shift -/
def ann23 : Ann := ⟨[3, 4, 5], [], [(9, [6, 7]), (8, [6, 7]), (7, [6, 5, 4, 3, 27]), (6, [6, 5, 4, 3, 8]), (5, [6, 5, 4, 3, 8]), (4, [6, 7]), (3, [6, 5, 4, 3, 22]), (2, [6, 7]), (1, [6, 5, 4, 3, 11]), (0, [6, 5, 4, 3])], []⟩
@[go_sem] theorem ann23_imm : ann23.imm = [3, 4, 5] := rfl
@[go_sem] theorem ann23_frz : ann23.frz = [] := rfl
@[go_sem] theorem ann23_live : ann23.live = [(9, [6, 7]), (8, [6, 7]), (7, [6, 5, 4, 3, 27]), (6, [6, 5, 4, 3, 8]), (5, [6, 5, 4, 3, 8]), (4, [6, 7]), (3, [6, 5, 4, 3, 22]), (2, [6, 7]), (1, [6, 5, 4, 3, 11]), (0, [6, 5, 4, 3])] := rfl
@[go_sem] theorem ann23_head : ann23.head = [] := rfl
/-- pilaster/pilasterref09.Bound -/
def ann24 : Ann := ⟨[4, 5], [], [(1, [6]), (0, [6, 5, 4, 0])], []⟩
@[go_sem] theorem ann24_imm : ann24.imm = [4, 5] := rfl
@[go_sem] theorem ann24_frz : ann24.frz = [] := rfl
@[go_sem] theorem ann24_live : ann24.live = [(1, [6]), (0, [6, 5, 4, 0])] := rfl
@[go_sem] theorem ann24_head : ann24.head = [] := rfl
/-- pilaster/tycon.Apps -/
def ann25 : Ann := ⟨[2], [], [(21, [4, 5]), (20, [4, 5]), (19, [4, 9, 60]), (18, [48, 9, 46, 4, 47]), (17, [9, 46, 4, 47, 48]), (16, [9, 46, 4, 47, 48, 11]), (15, [9, 46, 4, 47, 48, 49]), (14, [48, 9, 46, 4, 47]), (13, [9, 4, 1]), (12, [4, 5]), (11, [4, 1, 2, 42]), (10, [32, 6, 30, 4, 1, 2, 31]), (9, [6, 30, 4, 1, 2, 31, 32]), (8, [30, 4, 1, 2, 31, 32, 8, 6]), (7, [30, 4, 1, 2, 31, 32, 6, 33]), (6, [32, 6, 30, 4, 1, 2, 31]), (5, [6, 4, 1, 2]), (4, [4, 5]), (3, [4, 1, 2, 23]), (2, [4, 5]), (1, [4, 1, 2, 19]), (0, [4, 1, 2])], [(15, [48, 9, 46, 4, 47]), (7, [32, 6, 30, 4, 1, 2, 31])]⟩
@[go_sem] theorem ann25_imm : ann25.imm = [2] := rfl
@[go_sem] theorem ann25_frz : ann25.frz = [] := rfl
@[go_sem] theorem ann25_live : ann25.live = [(21, [4, 5]), (20, [4, 5]), (19, [4, 9, 60]), (18, [48, 9, 46, 4, 47]), (17, [9, 46, 4, 47, 48]), (16, [9, 46, 4, 47, 48, 11]), (15, [9, 46, 4, 47, 48, 49]), (14, [48, 9, 46, 4, 47]), (13, [9, 4, 1]), (12, [4, 5]), (11, [4, 1, 2, 42]), (10, [32, 6, 30, 4, 1, 2, 31]), (9, [6, 30, 4, 1, 2, 31, 32]), (8, [30, 4, 1, 2, 31, 32, 8, 6]), (7, [30, 4, 1, 2, 31, 32, 6, 33]), (6, [32, 6, 30, 4, 1, 2, 31]), (5, [6, 4, 1, 2]), (4, [4, 5]), (3, [4, 1, 2, 23]), (2, [4, 5]), (1, [4, 1, 2, 19]), (0, [4, 1, 2])] := rfl
@[go_sem] theorem ann25_head : ann25.head = [(15, [48, 9, 46, 4, 47]), (7, [32, 6, 30, 4, 1, 2, 31])] := rfl
/-- pilaster/tycon.Spine -/
def ann26 : Ann := ⟨[], [], [(8, [2, 3, 4]), (7, [2, 5, 1]), (6, [1, 5, 2]), (5, [1, 5, 2]), (4, [1, 2, 5, 12]), (3, [1, 5, 2]), (2, [2, 3, 4]), (1, [2, 1, 8]), (0, [2, 1])], [(4, [1, 5, 2])]⟩
@[go_sem] theorem ann26_imm : ann26.imm = [] := rfl
@[go_sem] theorem ann26_frz : ann26.frz = [] := rfl
@[go_sem] theorem ann26_live : ann26.live = [(8, [2, 3, 4]), (7, [2, 5, 1]), (6, [1, 5, 2]), (5, [1, 5, 2]), (4, [1, 2, 5, 12]), (3, [1, 5, 2]), (2, [2, 3, 4]), (1, [2, 1, 8]), (0, [2, 1])] := rfl
@[go_sem] theorem ann26_head : ann26.head = [(4, [1, 5, 2])] := rfl
/-- pilaster/tycon.Tuple -/
def ann27 : Ann := ⟨[], [], [(14, [2, 3]), (13, [2, 3]), (12, [2, 4, 46]), (11, [23, 4, 21, 2, 22]), (10, [4, 21, 2, 22, 23]), (9, [4, 21, 2, 22, 23, 6]), (8, [4, 21, 2, 22, 23, 6, 5]), (7, [4, 21, 2, 22, 23, 24]), (6, [23, 4, 21, 2, 22]), (5, [4, 2, 0]), (4, [2, 3]), (3, [2, 0, 18]), (2, [2, 3]), (1, [2, 0, 9]), (0, [2, 0])], [(7, [23, 4, 21, 2, 22])]⟩
@[go_sem] theorem ann27_imm : ann27.imm = [] := rfl
@[go_sem] theorem ann27_frz : ann27.frz = [] := rfl
@[go_sem] theorem ann27_live : ann27.live = [(14, [2, 3]), (13, [2, 3]), (12, [2, 4, 46]), (11, [23, 4, 21, 2, 22]), (10, [4, 21, 2, 22, 23]), (9, [4, 21, 2, 22, 23, 6]), (8, [4, 21, 2, 22, 23, 6, 5]), (7, [4, 21, 2, 22, 23, 24]), (6, [23, 4, 21, 2, 22]), (5, [4, 2, 0]), (4, [2, 3]), (3, [2, 0, 18]), (2, [2, 3]), (1, [2, 0, 9]), (0, [2, 0])] := rfl
@[go_sem] theorem ann27_head : ann27.head = [(7, [23, 4, 21, 2, 22])] := rfl
/-- pilaster/tycon.Unit -/
def ann28 : Ann := ⟨[], [], [(1, [0]), (0, [0])], []⟩
@[go_sem] theorem ann28_imm : ann28.imm = [] := rfl
@[go_sem] theorem ann28_frz : ann28.frz = [] := rfl
@[go_sem] theorem ann28_live : ann28.live = [(1, [0]), (0, [0])] := rfl
@[go_sem] theorem ann28_head : ann28.head = [] := rfl
/-- pilaster/pilasterref09.Unit -/
def ann29 : Ann := ⟨[], [], [(1, [0]), (0, [0])], []⟩
@[go_sem] theorem ann29_imm : ann29.imm = [] := rfl
@[go_sem] theorem ann29_frz : ann29.frz = [] := rfl
@[go_sem] theorem ann29_live : ann29.live = [(1, [0]), (0, [0])] := rfl
@[go_sem] theorem ann29_head : ann29.head = [] := rfl
/-- pilaster/tycon.Bool -/
def ann30 : Ann := ⟨[], [], [(2, [0]), (1, [0, 1]), (0, [0])], []⟩
@[go_sem] theorem ann30_imm : ann30.imm = [] := rfl
@[go_sem] theorem ann30_frz : ann30.frz = [] := rfl
@[go_sem] theorem ann30_live : ann30.live = [(2, [0]), (1, [0, 1]), (0, [0])] := rfl
@[go_sem] theorem ann30_head : ann30.head = [] := rfl
/-- pilaster/pilasterref09.Bool -/
def ann31 : Ann := ⟨[], [], [(1, [0]), (0, [0])], []⟩
@[go_sem] theorem ann31_imm : ann31.imm = [] := rfl
@[go_sem] theorem ann31_frz : ann31.frz = [] := rfl
@[go_sem] theorem ann31_live : ann31.live = [(1, [0]), (0, [0])] := rfl
@[go_sem] theorem ann31_head : ann31.head = [] := rfl
/-- pilaster/pilasterref09.Spine -/
def ann32 : Ann := ⟨[1], [], [(4, [2, 3]), (3, [2, 1, 5, 4]), (2, [2, 3]), (1, [2, 1, 8]), (0, [2, 1])], []⟩
@[go_sem] theorem ann32_imm : ann32.imm = [1] := rfl
@[go_sem] theorem ann32_frz : ann32.frz = [] := rfl
@[go_sem] theorem ann32_live : ann32.live = [(4, [2, 3]), (3, [2, 1, 5, 4]), (2, [2, 3]), (1, [2, 1, 8]), (0, [2, 1])] := rfl
@[go_sem] theorem ann32_head : ann32.head = [] := rfl
/-- pilaster/pilasterref09.SameAll -/
def ann33 : Ann := ⟨[], [], [(8, [4]), (5, [5, 1, 0]), (7, [4]), (6, [1, 0, 5, 26]), (4, [1, 0, 5, 14]), (3, [5, 1, 0]), (2, [4]), (1, [1, 0, 10]), (0, [1, 0])], [(4, [5, 1, 0])]⟩
@[go_sem] theorem ann33_imm : ann33.imm = [] := rfl
@[go_sem] theorem ann33_frz : ann33.frz = [] := rfl
@[go_sem] theorem ann33_live : ann33.live = [(8, [4]), (5, [5, 1, 0]), (7, [4]), (6, [1, 0, 5, 26]), (4, [1, 0, 5, 14]), (3, [5, 1, 0]), (2, [4]), (1, [1, 0, 10]), (0, [1, 0])] := rfl
@[go_sem] theorem ann33_head : ann33.head = [(4, [5, 1, 0])] := rfl
/-- pilaster/pilasterref09.Apps -/
def ann34 : Ann := ⟨[], [], [(5, [4]), (3, [5, 2, 1, 4]), (4, [2, 1, 4, 5]), (2, [2, 1, 4, 5, 9]), (1, [5, 2, 1, 4]), (0, [2, 1, 4])], [(2, [5, 2, 1, 4])]⟩
@[go_sem] theorem ann34_imm : ann34.imm = [] := rfl
@[go_sem] theorem ann34_frz : ann34.frz = [] := rfl
@[go_sem] theorem ann34_live : ann34.live = [(5, [4]), (3, [5, 2, 1, 4]), (4, [2, 1, 4, 5]), (2, [2, 1, 4, 5, 9]), (1, [5, 2, 1, 4]), (0, [2, 1, 4])] := rfl
@[go_sem] theorem ann34_head : ann34.head = [(2, [5, 2, 1, 4])] := rfl
/-- pilaster/pilasterref09.Tuple -/
def ann35 : Ann := ⟨[], [], [(7, [2]), (4, [4, 3, 0, 2]), (6, [3, 0, 2, 4]), (5, [3, 0, 2, 4]), (3, [3, 0, 2, 4, 9]), (2, [4, 3, 0, 2]), (1, [3, 0, 2]), (0, [0, 2])], [(3, [4, 3, 0, 2])]⟩
@[go_sem] theorem ann35_imm : ann35.imm = [] := rfl
@[go_sem] theorem ann35_frz : ann35.frz = [] := rfl
@[go_sem] theorem ann35_live : ann35.live = [(7, [2]), (4, [4, 3, 0, 2]), (6, [3, 0, 2, 4]), (5, [3, 0, 2, 4]), (3, [3, 0, 2, 4, 9]), (2, [4, 3, 0, 2]), (1, [3, 0, 2]), (0, [0, 2])] := rfl
@[go_sem] theorem ann35_head : ann35.head = [(3, [4, 3, 0, 2])] := rfl
/-- pilaster/pilasterref09.App -/
def ann36 : Ann := ⟨[2, 3], [], [(1, [4]), (0, [4, 3, 2])], []⟩
@[go_sem] theorem ann36_imm : ann36.imm = [2, 3] := rfl
@[go_sem] theorem ann36_frz : ann36.frz = [] := rfl
@[go_sem] theorem ann36_live : ann36.live = [(1, [4]), (0, [4, 3, 2])] := rfl
@[go_sem] theorem ann36_head : ann36.head = [] := rfl
/-- pilaster/pilasterref09.Var -/
def ann37 : Ann := ⟨[], [], [(1, [2]), (0, [2, 0])], []⟩
@[go_sem] theorem ann37_imm : ann37.imm = [] := rfl
@[go_sem] theorem ann37_frz : ann37.frz = [] := rfl
@[go_sem] theorem ann37_live : ann37.live = [(1, [2]), (0, [2, 0])] := rfl
@[go_sem] theorem ann37_head : ann37.head = [] := rfl
/-- pilaster/tycon.Free -/
def ann38 : Ann := ⟨[1], [], [(6, [2, 3]), (5, [4]), (4, [4]), (3, [4, 1]), (2, [2, 3]), (1, [1, 7]), (0, [1])], []⟩
@[go_sem] theorem ann38_imm : ann38.imm = [1] := rfl
@[go_sem] theorem ann38_frz : ann38.frz = [] := rfl
@[go_sem] theorem ann38_live : ann38.live = [(6, [2, 3]), (5, [4]), (4, [4]), (3, [4, 1]), (2, [2, 3]), (1, [1, 7]), (0, [1])] := rfl
@[go_sem] theorem ann38_head : ann38.head = [] := rfl
/-- slices.Equal[[]int,int] -/
def ann39 : Ann := ⟨[], [], [(9, [4]), (8, [13, 1, 0, 12]), (7, [4]), (6, [1, 0, 12, 13, 24]), (5, [1, 0, 12, 13, 5]), (4, [1, 0, 12, 13, 14]), (3, [13, 1, 0, 12]), (2, [4]), (1, [1, 0, 10]), (0, [1, 0])], [(4, [13, 1, 0, 12])]⟩
@[go_sem] theorem ann39_imm : ann39.imm = [] := rfl
@[go_sem] theorem ann39_frz : ann39.frz = [] := rfl
@[go_sem] theorem ann39_live : ann39.live = [(9, [4]), (8, [13, 1, 0, 12]), (7, [4]), (6, [1, 0, 12, 13, 24]), (5, [1, 0, 12, 13, 5]), (4, [1, 0, 12, 13, 14]), (3, [13, 1, 0, 12]), (2, [4]), (1, [1, 0, 10]), (0, [1, 0])] := rfl
@[go_sem] theorem ann39_head : ann39.head = [(4, [13, 1, 0, 12])] := rfl
/-- slices.ContainsFunc[[]pilaster/api.Con,pilaster/api.Con] -/
def ann40 : Ann := ⟨[], [], [(1, [4]), (0, [1, 0])], []⟩
@[go_sem] theorem ann40_imm : ann40.imm = [] := rfl
@[go_sem] theorem ann40_frz : ann40.frz = [] := rfl
@[go_sem] theorem ann40_live : ann40.live = [(1, [4]), (0, [1, 0])] := rfl
@[go_sem] theorem ann40_head : ann40.head = [] := rfl
/-- pilaster/pilasterlaw09.small$1 -/
def ann41 : Ann := ⟨[1], [], [(2, [2]), (1, [3]), (0, [1])], []⟩
@[go_sem] theorem ann41_imm : ann41.imm = [1] := rfl
@[go_sem] theorem ann41_frz : ann41.frz = [] := rfl
@[go_sem] theorem ann41_live : ann41.live = [(2, [2]), (1, [3]), (0, [1])] := rfl
@[go_sem] theorem ann41_head : ann41.head = [] := rfl
/-- pilaster/pilasterlaw09.nodes -/
def ann42 : Ann := ⟨[3], [], [(11, [6]), (10, [1, 43, 2, 7, 41, 42]), (9, [1, 2, 7, 41, 42, 43]), (8, [6]), (7, [1, 2, 41, 42, 43, 7, 9, 49]), (6, [1, 2, 41, 42, 43, 7, 9]), (5, [1, 2, 41, 42, 43, 7, 44]), (4, [1, 43, 2, 7, 41, 42]), (3, [1, 2, 7, 3]), (2, [6]), (1, [1, 2, 3, 29]), (0, [1, 2, 3])], [(5, [1, 43, 2, 7, 41, 42])]⟩
@[go_sem] theorem ann42_imm : ann42.imm = [3] := rfl
@[go_sem] theorem ann42_frz : ann42.frz = [] := rfl
@[go_sem] theorem ann42_live : ann42.live = [(11, [6]), (10, [1, 43, 2, 7, 41, 42]), (9, [1, 2, 7, 41, 42, 43]), (8, [6]), (7, [1, 2, 41, 42, 43, 7, 9, 49]), (6, [1, 2, 41, 42, 43, 7, 9]), (5, [1, 2, 41, 42, 43, 7, 44]), (4, [1, 43, 2, 7, 41, 42]), (3, [1, 2, 7, 3]), (2, [6]), (1, [1, 2, 3, 29]), (0, [1, 2, 3])] := rfl
@[go_sem] theorem ann42_head : ann42.head = [(5, [1, 43, 2, 7, 41, 42])] := rfl
/-- pilaster/tycon.all -/
def ann43 : Ann := ⟨[], [], [(1, [2]), (0, [0])], []⟩
@[go_sem] theorem ann43_imm : ann43.imm = [] := rfl
@[go_sem] theorem ann43_frz : ann43.frz = [] := rfl
@[go_sem] theorem ann43_live : ann43.live = [(1, [2]), (0, [0])] := rfl
@[go_sem] theorem ann43_head : ann43.head = [] := rfl
/-- pilaster/tycon.replaced -/
def ann44 : Ann := ⟨[2, 10], [], [(5, [4, 5]), (4, [4, 5]), (3, [4, 7, 23]), (2, [4, 7, 6]), (1, [4, 6, 2]), (0, [4, 2, 1])], []⟩
@[go_sem] theorem ann44_imm : ann44.imm = [2, 10] := rfl
@[go_sem] theorem ann44_frz : ann44.frz = [] := rfl
@[go_sem] theorem ann44_live : ann44.live = [(5, [4, 5]), (4, [4, 5]), (3, [4, 7, 23]), (2, [4, 7, 6]), (1, [4, 6, 2]), (0, [4, 2, 1])] := rfl
@[go_sem] theorem ann44_head : ann44.head = [] := rfl
/-- pilaster/tycon.Subst$1 -/
def ann45 : Ann := ⟨[3, 36], [], [(7, [5]), (6, [5, 6, 2, 7]), (3, [5]), (5, [5]), (4, [5, 2, 3, 6, 1, 22]), (2, [5, 3, 2, 6, 1, 12]), (1, [5, 3, 2, 6, 1]), (0, [5, 3, 2, 1])], []⟩
@[go_sem] theorem ann45_imm : ann45.imm = [3, 36] := rfl
@[go_sem] theorem ann45_frz : ann45.frz = [] := rfl
@[go_sem] theorem ann45_live : ann45.live = [(7, [5]), (6, [5, 6, 2, 7]), (3, [5]), (5, [5]), (4, [5, 2, 3, 6, 1, 22]), (2, [5, 3, 2, 6, 1, 12]), (1, [5, 3, 2, 6, 1]), (0, [5, 3, 2, 1])] := rfl
@[go_sem] theorem ann45_head : ann45.head = [] := rfl
/-- pilaster/tycon.leafOf -/
def ann46 : Ann := ⟨[1], [], [(1, [2]), (0, [2, 1])], []⟩
@[go_sem] theorem ann46_imm : ann46.imm = [1] := rfl
@[go_sem] theorem ann46_frz : ann46.frz = [] := rfl
@[go_sem] theorem ann46_live : ann46.live = [(1, [2]), (0, [2, 1])] := rfl
@[go_sem] theorem ann46_head : ann46.head = [] := rfl
/-- pilaster/tycon.variable -/
def ann47 : Ann := ⟨[], [], [(1, [2]), (0, [2, 0])], []⟩
@[go_sem] theorem ann47_imm : ann47.imm = [] := rfl
@[go_sem] theorem ann47_frz : ann47.frz = [] := rfl
@[go_sem] theorem ann47_live : ann47.live = [(1, [2]), (0, [2, 0])] := rfl
@[go_sem] theorem ann47_head : ann47.head = [] := rfl
/-- pilaster/tycon.shifted -/
def ann48 : Ann := ⟨[2, 3], [], [(1, [4]), (0, [3, 2])], []⟩
@[go_sem] theorem ann48_imm : ann48.imm = [2, 3] := rfl
@[go_sem] theorem ann48_frz : ann48.frz = [] := rfl
@[go_sem] theorem ann48_live : ann48.live = [(1, [4]), (0, [3, 2])] := rfl
@[go_sem] theorem ann48_head : ann48.head = [] := rfl
/-- (*pilaster/tycon.maker).rebuild -/
def ann49 : Ann := ⟨[4], [], [(17, [6]), (16, [72, 8, 2, 0, 70, 6, 71]), (15, [8, 2, 0, 70, 6, 71, 72]), (14, [8, 2, 0, 70, 6, 71, 72, 10]), (13, [8, 2, 0, 70, 6, 71, 72, 73]), (12, [72, 8, 2, 0, 70, 6, 71]), (11, [8, 2, 0, 6, 4]), (10, [8, 0, 6, 4, 2, 66]), (9, [8, 0, 6, 4, 2]), (8, [0, 6, 4, 2]), (7, [6]), (6, [6, 7]), (5, [6, 7, 0]), (4, [6, 0, 2, 4, 27]), (3, [6]), (2, [6]), (1, [6, 0, 2, 4, 15]), (0, [6, 0, 2, 4])], [(13, [72, 8, 2, 0, 70, 6, 71])]⟩
@[go_sem] theorem ann49_imm : ann49.imm = [4] := rfl
@[go_sem] theorem ann49_frz : ann49.frz = [] := rfl
@[go_sem] theorem ann49_live : ann49.live = [(17, [6]), (16, [72, 8, 2, 0, 70, 6, 71]), (15, [8, 2, 0, 70, 6, 71, 72]), (14, [8, 2, 0, 70, 6, 71, 72, 10]), (13, [8, 2, 0, 70, 6, 71, 72, 73]), (12, [72, 8, 2, 0, 70, 6, 71]), (11, [8, 2, 0, 6, 4]), (10, [8, 0, 6, 4, 2, 66]), (9, [8, 0, 6, 4, 2]), (8, [0, 6, 4, 2]), (7, [6]), (6, [6, 7]), (5, [6, 7, 0]), (4, [6, 0, 2, 4, 27]), (3, [6]), (2, [6]), (1, [6, 0, 2, 4, 15]), (0, [6, 0, 2, 4])] := rfl
@[go_sem] theorem ann49_head : ann49.head = [(13, [72, 8, 2, 0, 70, 6, 71])] := rfl
/-- pilaster/pilasterref09.Small -/
def ann50 : Ann := ⟨[1], [], [(1, [2]), (0, [1])], []⟩
@[go_sem] theorem ann50_imm : ann50.imm = [1] := rfl
@[go_sem] theorem ann50_frz : ann50.frz = [] := rfl
@[go_sem] theorem ann50_live : ann50.live = [(1, [2]), (0, [1])] := rfl
@[go_sem] theorem ann50_head : ann50.head = [] := rfl
/-- pilaster/pilasterref09.all -/
def ann51 : Ann := ⟨[1], [], [(8, [2]), (5, [3, 1]), (7, [2]), (6, [1, 3, 20]), (4, [1, 3, 11]), (3, [3, 1]), (2, [2]), (1, [1, 6]), (0, [1])], [(4, [3, 1])]⟩
@[go_sem] theorem ann51_imm : ann51.imm = [1] := rfl
@[go_sem] theorem ann51_frz : ann51.frz = [] := rfl
@[go_sem] theorem ann51_live : ann51.live = [(8, [2]), (5, [3, 1]), (7, [2]), (6, [1, 3, 20]), (4, [1, 3, 11]), (3, [3, 1]), (2, [2]), (1, [1, 6]), (0, [1])] := rfl
@[go_sem] theorem ann51_head : ann51.head = [(4, [3, 1])] := rfl
/-- pilaster/pilasterref09.subst -/
def ann52 : Ann := ⟨[3], [], [(12, [6]), (10, [8, 2, 3, 1, 7, 6]), (11, [2, 3, 1, 7, 6, 8]), (9, [2, 3, 1, 6, 8, 7, 43]), (8, [8, 2, 3, 1, 7, 6]), (7, [2, 3, 1, 7, 6]), (6, [6]), (5, [6]), (4, [6, 2, 3, 1, 23]), (3, [6]), (2, [6, 3, 2, 1, 15]), (1, [6, 3, 2, 1, 11]), (0, [6, 3, 2, 1])], [(9, [8, 2, 3, 1, 7, 6])]⟩
@[go_sem] theorem ann52_imm : ann52.imm = [3] := rfl
@[go_sem] theorem ann52_frz : ann52.frz = [] := rfl
@[go_sem] theorem ann52_live : ann52.live = [(12, [6]), (10, [8, 2, 3, 1, 7, 6]), (11, [2, 3, 1, 7, 6, 8]), (9, [2, 3, 1, 6, 8, 7, 43]), (8, [8, 2, 3, 1, 7, 6]), (7, [2, 3, 1, 7, 6]), (6, [6]), (5, [6]), (4, [6, 2, 3, 1, 23]), (3, [6]), (2, [6, 3, 2, 1, 15]), (1, [6, 3, 2, 1, 11]), (0, [6, 3, 2, 1])] := rfl
@[go_sem] theorem ann52_head : ann52.head = [(9, [8, 2, 3, 1, 7, 6])] := rfl
/-- pilaster/tycon.depth -/
def ann53 : Ann := ⟨[1], [], [(7, [2]), (6, [9, 3, 7, 8]), (5, [3, 7, 8, 9]), (4, [7, 8, 9, 5, 3]), (3, [7, 8, 9, 3, 10]), (2, [9, 3, 7, 8]), (1, [3, 1]), (0, [1])], [(3, [9, 3, 7, 8])]⟩
@[go_sem] theorem ann53_imm : ann53.imm = [1] := rfl
@[go_sem] theorem ann53_frz : ann53.frz = [] := rfl
@[go_sem] theorem ann53_live : ann53.live = [(7, [2]), (6, [9, 3, 7, 8]), (5, [3, 7, 8, 9]), (4, [7, 8, 9, 5, 3]), (3, [7, 8, 9, 3, 10]), (2, [9, 3, 7, 8]), (1, [3, 1]), (0, [1])] := rfl
@[go_sem] theorem ann53_head : ann53.head = [(3, [9, 3, 7, 8])] := rfl
/-- pilaster/tycon.formed -/
def ann54 : Ann := ⟨[1], [], [(17, [2]), (16, [2]), (15, [1, 95]), (14, [2]), (13, [1, 69]), (12, [1, 3]), (11, [2]), (10, [1, 44]), (9, [2]), (8, [1, 25]), (5, [2]), (4, [1, 14]), (7, [1, 15]), (6, [1, 15, 11]), (3, [1, 11]), (2, [2]), (1, [1, 9]), (0, [1])], []⟩
@[go_sem] theorem ann54_imm : ann54.imm = [1] := rfl
@[go_sem] theorem ann54_frz : ann54.frz = [] := rfl
@[go_sem] theorem ann54_live : ann54.live = [(17, [2]), (16, [2]), (15, [1, 95]), (14, [2]), (13, [1, 69]), (12, [1, 3]), (11, [2]), (10, [1, 44]), (9, [2]), (8, [1, 25]), (5, [2]), (4, [1, 14]), (7, [1, 15]), (6, [1, 15, 11]), (3, [1, 11]), (2, [2]), (1, [1, 9]), (0, [1])] := rfl
@[go_sem] theorem ann54_head : ann54.head = [] := rfl
/-- pilaster/tycon.same -/
def ann55 : Ann := ⟨[2, 3], [], [(1, [4]), (0, [3, 2])], []⟩
@[go_sem] theorem ann55_imm : ann55.imm = [2, 3] := rfl
@[go_sem] theorem ann55_frz : ann55.frz = [] := rfl
@[go_sem] theorem ann55_live : ann55.live = [(1, [4]), (0, [3, 2])] := rfl
@[go_sem] theorem ann55_head : ann55.head = [] := rfl
/-- slices.Equal[[]string,string] -/
def ann56 : Ann := ⟨[], [], [(9, [4]), (8, [13, 1, 0, 12]), (7, [4]), (6, [1, 0, 12, 13, 24]), (5, [1, 0, 12, 13, 5]), (4, [1, 0, 12, 13, 14]), (3, [13, 1, 0, 12]), (2, [4]), (1, [1, 0, 10]), (0, [1, 0])], [(4, [13, 1, 0, 12])]⟩
@[go_sem] theorem ann56_imm : ann56.imm = [] := rfl
@[go_sem] theorem ann56_frz : ann56.frz = [] := rfl
@[go_sem] theorem ann56_live : ann56.live = [(9, [4]), (8, [13, 1, 0, 12]), (7, [4]), (6, [1, 0, 12, 13, 24]), (5, [1, 0, 12, 13, 5]), (4, [1, 0, 12, 13, 14]), (3, [13, 1, 0, 12]), (2, [4]), (1, [1, 0, 10]), (0, [1, 0])] := rfl
@[go_sem] theorem ann56_head : ann56.head = [(4, [13, 1, 0, 12])] := rfl
/-- slices.EqualFunc[[]pilaster/api.Con,[]pilaster/api.Con,pilaster/api.Con,pilaster/api.Con] -/
def ann57 : Ann := ⟨[], [], [(10, [6]), (9, [17, 2, 1, 15, 16]), (8, [6]), (7, [2, 1, 15, 16, 17, 30]), (6, [2, 1, 15, 16, 17, 9, 8]), (5, [2, 1, 15, 16, 17, 8, 7]), (4, [2, 1, 15, 16, 17, 18]), (3, [17, 2, 1, 15, 16]), (2, [6]), (1, [2, 1, 0, 14]), (0, [2, 1, 0])], [(4, [17, 2, 1, 15, 16])]⟩
@[go_sem] theorem ann57_imm : ann57.imm = [] := rfl
@[go_sem] theorem ann57_frz : ann57.frz = [] := rfl
@[go_sem] theorem ann57_live : ann57.live = [(10, [6]), (9, [17, 2, 1, 15, 16]), (8, [6]), (7, [2, 1, 15, 16, 17, 30]), (6, [2, 1, 15, 16, 17, 9, 8]), (5, [2, 1, 15, 16, 17, 8, 7]), (4, [2, 1, 15, 16, 17, 18]), (3, [17, 2, 1, 15, 16]), (2, [6]), (1, [2, 1, 0, 14]), (0, [2, 1, 0])] := rfl
@[go_sem] theorem ann57_head : ann57.head = [(4, [17, 2, 1, 15, 16])] := rfl
/-- pilaster/pilasterref09.SameKind -/
def ann58 : Ann := ⟨[2, 3], [], [(8, [4]), (5, [5, 3, 2]), (7, [4]), (6, [3, 2, 5, 31]), (4, [3, 2, 5, 17]), (3, [5, 3, 2]), (2, [4]), (1, [3, 2, 12]), (0, [3, 2])], [(4, [5, 3, 2])]⟩
@[go_sem] theorem ann58_imm : ann58.imm = [2, 3] := rfl
@[go_sem] theorem ann58_frz : ann58.frz = [] := rfl
@[go_sem] theorem ann58_live : ann58.live = [(8, [4]), (5, [5, 3, 2]), (7, [4]), (6, [3, 2, 5, 31]), (4, [3, 2, 5, 17]), (3, [5, 3, 2]), (2, [4]), (1, [3, 2, 12]), (0, [3, 2])] := rfl
@[go_sem] theorem ann58_head : ann58.head = [(4, [5, 3, 2])] := rfl
/-- pilaster/pilasterref01.Same -/
def ann59 : Ann := ⟨[], [], [(8, [4]), (5, [5, 1, 0]), (7, [4]), (6, [1, 0, 5, 25]), (4, [1, 0, 5, 14]), (3, [5, 1, 0]), (2, [4]), (1, [1, 0, 10]), (0, [1, 0])], [(4, [5, 1, 0])]⟩
@[go_sem] theorem ann59_imm : ann59.imm = [] := rfl
@[go_sem] theorem ann59_frz : ann59.frz = [] := rfl
@[go_sem] theorem ann59_live : ann59.live = [(8, [4]), (5, [5, 1, 0]), (7, [4]), (6, [1, 0, 5, 25]), (4, [1, 0, 5, 14]), (3, [5, 1, 0]), (2, [4]), (1, [1, 0, 10]), (0, [1, 0])] := rfl
@[go_sem] theorem ann59_head : ann59.head = [(4, [5, 1, 0])] := rfl
/-- pilaster/pilasterlaw09.tiny$1 -/
def ann60 : Ann := ⟨[1], [], [(1, [2]), (0, [1])], []⟩
@[go_sem] theorem ann60_imm : ann60.imm = [1] := rfl
@[go_sem] theorem ann60_frz : ann60.frz = [] := rfl
@[go_sem] theorem ann60_live : ann60.live = [(1, [2]), (0, [1])] := rfl
@[go_sem] theorem ann60_head : ann60.head = [] := rfl
/-- pilaster/tycon.each -/
def ann61 : Ann := ⟨[3], [], [(9, [27, 2, 1, 25, 26]), (8, [2, 1, 25, 26, 27]), (7, [2, 1, 25, 26, 27, 7]), (6, [2, 1, 25, 26, 27, 28]), (5, [27, 2, 1, 25, 26]), (4, [2, 1, 3]), (3, [2, 3, 1, 21]), (2, [2, 3, 1]), (1, [2, 3, 1, 15]), (0, [2, 3, 1])], [(6, [27, 2, 1, 25, 26])]⟩
@[go_sem] theorem ann61_imm : ann61.imm = [3] := rfl
@[go_sem] theorem ann61_frz : ann61.frz = [] := rfl
@[go_sem] theorem ann61_live : ann61.live = [(9, [27, 2, 1, 25, 26]), (8, [2, 1, 25, 26, 27]), (7, [2, 1, 25, 26, 27, 7]), (6, [2, 1, 25, 26, 27, 28]), (5, [27, 2, 1, 25, 26]), (4, [2, 1, 3]), (3, [2, 3, 1, 21]), (2, [2, 3, 1]), (1, [2, 3, 1, 15]), (0, [2, 3, 1])] := rfl
@[go_sem] theorem ann61_head : ann61.head = [(6, [27, 2, 1, 25, 26])] := rfl
/-- pilaster/tycon.Shift$1 -/
def ann62 : Ann := ⟨[5], [], [(3, []), (2, [4, 26]), (1, [4, 2, 3, 7, 5]), (0, [4, 2, 3, 5, 1])], []⟩
@[go_sem] theorem ann62_imm : ann62.imm = [5] := rfl
@[go_sem] theorem ann62_frz : ann62.frz = [] := rfl
@[go_sem] theorem ann62_live : ann62.live = [(3, []), (2, [4, 26]), (1, [4, 2, 3, 7, 5]), (0, [4, 2, 3, 5, 1])] := rfl
@[go_sem] theorem ann62_head : ann62.head = [] := rfl
/-- pilaster/tycon.copied -/
def ann63 : Ann := ⟨[1, 5], [], [(2, [2]), (1, [2, 1, 3]), (0, [2, 1])], []⟩
@[go_sem] theorem ann63_imm : ann63.imm = [1, 5] := rfl
@[go_sem] theorem ann63_frz : ann63.frz = [] := rfl
@[go_sem] theorem ann63_live : ann63.live = [(2, [2]), (1, [2, 1, 3]), (0, [2, 1])] := rfl
@[go_sem] theorem ann63_head : ann63.head = [] := rfl
/-- slices.Reverse[[]pilaster/api.Con,pilaster/api.Con] -/
def ann64 : Ann := ⟨[], [], [(2, [3, 2, 0]), (3, [0, 3, 2]), (1, [0, 3, 2, 9]), (0, [3, 2, 0])], [(1, [3, 2, 0])]⟩
@[go_sem] theorem ann64_imm : ann64.imm = [] := rfl
@[go_sem] theorem ann64_frz : ann64.frz = [] := rfl
@[go_sem] theorem ann64_live : ann64.live = [(2, [3, 2, 0]), (3, [0, 3, 2]), (1, [0, 3, 2, 9]), (0, [3, 2, 0])] := rfl
@[go_sem] theorem ann64_head : ann64.head = [(1, [3, 2, 0])] := rfl
/-- strconv.Itoa -/
def ann65 : Ann := ⟨[], [], [(1, [2]), (0, [0])], []⟩
@[go_sem] theorem ann65_imm : ann65.imm = [] := rfl
@[go_sem] theorem ann65_frz : ann65.frz = [] := rfl
@[go_sem] theorem ann65_live : ann65.live = [(1, [2]), (0, [0])] := rfl
@[go_sem] theorem ann65_head : ann65.head = [] := rfl
/-- pilaster/pilasterref01.Decimal -/
def ann66 : Ann := ⟨[], [], [(5, [2]), (4, [2]), (3, [0, 10]), (2, [2]), (1, [0, 4]), (0, [0])], []⟩
@[go_sem] theorem ann66_imm : ann66.imm = [] := rfl
@[go_sem] theorem ann66_frz : ann66.frz = [] := rfl
@[go_sem] theorem ann66_live : ann66.live = [(5, [2]), (4, [2]), (3, [0, 10]), (2, [2]), (1, [0, 4]), (0, [0])] := rfl
@[go_sem] theorem ann66_head : ann66.head = [] := rfl
/-- pilaster/tycon.Free$1 -/
def ann67 : Ann := ⟨[3], [], [(2, []), (1, [2, 1, 3, 13]), (0, [2, 1, 3])], []⟩
@[go_sem] theorem ann67_imm : ann67.imm = [3] := rfl
@[go_sem] theorem ann67_frz : ann67.frz = [] := rfl
@[go_sem] theorem ann67_live : ann67.live = [(2, []), (1, [2, 1, 3, 13]), (0, [2, 1, 3])] := rfl
@[go_sem] theorem ann67_head : ann67.head = [] := rfl
/-- slices.Sort[[]int,int] -/
def ann68 : Ann := ⟨[], [], [(1, []), (0, [2, 0])], []⟩
@[go_sem] theorem ann68_imm : ann68.imm = [] := rfl
@[go_sem] theorem ann68_frz : ann68.frz = [] := rfl
@[go_sem] theorem ann68_live : ann68.live = [(1, []), (0, [2, 0])] := rfl
@[go_sem] theorem ann68_head : ann68.head = [] := rfl
/-- slices.Compact[[]int,int] -/
def ann69 : Ann := ⟨[], [], [(16, [2]), (5, [3, 0]), (15, [2]), (14, [3, 0]), (10, [5, 3, 4, 0]), (13, [3, 4, 0, 5]), (12, [4, 0, 5, 3]), (11, [4, 0, 5, 3, 44]), (9, [4, 0, 5, 3, 32]), (8, [5, 3, 4, 0]), (7, [3, 4, 0]), (6, [3, 0, 25]), (4, [3, 0, 13]), (3, [3, 0]), (2, [2]), (1, [0, 8]), (0, [0])], [(9, [5, 3, 4, 0]), (4, [3, 0])]⟩
@[go_sem] theorem ann69_imm : ann69.imm = [] := rfl
@[go_sem] theorem ann69_frz : ann69.frz = [] := rfl
@[go_sem] theorem ann69_live : ann69.live = [(16, [2]), (5, [3, 0]), (15, [2]), (14, [3, 0]), (10, [5, 3, 4, 0]), (13, [3, 4, 0, 5]), (12, [4, 0, 5, 3]), (11, [4, 0, 5, 3, 44]), (9, [4, 0, 5, 3, 32]), (8, [5, 3, 4, 0]), (7, [3, 4, 0]), (6, [3, 0, 25]), (4, [3, 0, 13]), (3, [3, 0]), (2, [2]), (1, [0, 8]), (0, [0])] := rfl
@[go_sem] theorem ann69_head : ann69.head = [(9, [5, 3, 4, 0]), (4, [3, 0])] := rfl
/-- slices.IndexFunc[[]pilaster/api.Con,pilaster/api.Con] -/
def ann70 : Ann := ⟨[], [], [(7, [4]), (6, [8, 0, 1, 7]), (5, [4]), (4, [5, 0, 1, 7, 8, 16]), (3, [5, 0, 1, 7, 8]), (2, [0, 1, 7, 8, 9]), (1, [8, 0, 1, 7]), (0, [0, 1])], [(2, [8, 0, 1, 7])]⟩
@[go_sem] theorem ann70_imm : ann70.imm = [] := rfl
@[go_sem] theorem ann70_frz : ann70.frz = [] := rfl
@[go_sem] theorem ann70_live : ann70.live = [(7, [4]), (6, [8, 0, 1, 7]), (5, [4]), (4, [5, 0, 1, 7, 8, 16]), (3, [5, 0, 1, 7, 8]), (2, [0, 1, 7, 8, 9]), (1, [8, 0, 1, 7]), (0, [0, 1])] := rfl
@[go_sem] theorem ann70_head : ann70.head = [(2, [8, 0, 1, 7])] := rfl
/-- slices.ContainsFunc[[]string,string] -/
def ann71 : Ann := ⟨[], [], [(1, [4]), (0, [1, 0])], []⟩
@[go_sem] theorem ann71_imm : ann71.imm = [] := rfl
@[go_sem] theorem ann71_frz : ann71.frz = [] := rfl
@[go_sem] theorem ann71_live : ann71.live = [(1, [4]), (0, [1, 0])] := rfl
@[go_sem] theorem ann71_head : ann71.head = [] := rfl
/-- pilaster/pilasterlaw09.nodes$1 -/
def ann72 : Ann := ⟨[], [], [(1, [2]), (0, [0])], []⟩
@[go_sem] theorem ann72_imm : ann72.imm = [] := rfl
@[go_sem] theorem ann72_frz : ann72.frz = [] := rfl
@[go_sem] theorem ann72_live : ann72.live = [(1, [2]), (0, [0])] := rfl
@[go_sem] theorem ann72_head : ann72.head = [] := rfl
/-- pilaster/pilasterlaw09.kinds -/
def ann73 : Ann := ⟨[3], [], [(11, [6]), (10, [1, 16, 2, 7, 14, 15]), (9, [1, 2, 7, 14, 15, 16]), (8, [6]), (7, [1, 2, 14, 15, 16, 7, 9, 22]), (6, [1, 2, 14, 15, 16, 7, 9]), (5, [1, 2, 14, 15, 16, 7, 17]), (4, [1, 16, 2, 7, 14, 15]), (3, [1, 2, 7, 3]), (2, [6]), (1, [1, 2, 3, 11]), (0, [1, 2, 3])], [(5, [1, 16, 2, 7, 14, 15])]⟩
@[go_sem] theorem ann73_imm : ann73.imm = [3] := rfl
@[go_sem] theorem ann73_frz : ann73.frz = [] := rfl
@[go_sem] theorem ann73_live : ann73.live = [(11, [6]), (10, [1, 16, 2, 7, 14, 15]), (9, [1, 2, 7, 14, 15, 16]), (8, [6]), (7, [1, 2, 14, 15, 16, 7, 9, 22]), (6, [1, 2, 14, 15, 16, 7, 9]), (5, [1, 2, 14, 15, 16, 7, 17]), (4, [1, 16, 2, 7, 14, 15]), (3, [1, 2, 7, 3]), (2, [6]), (1, [1, 2, 3, 11]), (0, [1, 2, 3])] := rfl
@[go_sem] theorem ann73_head : ann73.head = [(5, [1, 16, 2, 7, 14, 15])] := rfl
/-- pilaster/tycon.all$1 -/
def ann74 : Ann := ⟨[1], [], [(1, [2]), (0, [1])], []⟩
@[go_sem] theorem ann74_imm : ann74.imm = [1] := rfl
@[go_sem] theorem ann74_frz : ann74.frz = [] := rfl
@[go_sem] theorem ann74_live : ann74.live = [(1, [2]), (0, [1])] := rfl
@[go_sem] theorem ann74_head : ann74.head = [] := rfl
/-- pilaster/tycon.kindOf -/
def ann75 : Ann := ⟨[1], [], [(7, [2]), (6, [9, 3, 7, 2, 8]), (5, [3, 7, 2, 8, 9]), (4, [3, 7, 2, 8, 9, 5]), (3, [3, 7, 2, 8, 9, 10]), (2, [9, 3, 7, 2, 8]), (1, [3, 2, 1]), (0, [2, 1])], [(3, [9, 3, 7, 2, 8])]⟩
@[go_sem] theorem ann75_imm : ann75.imm = [1] := rfl
@[go_sem] theorem ann75_frz : ann75.frz = [] := rfl
@[go_sem] theorem ann75_live : ann75.live = [(7, [2]), (6, [9, 3, 7, 2, 8]), (5, [3, 7, 2, 8, 9]), (4, [3, 7, 2, 8, 9, 5]), (3, [3, 7, 2, 8, 9, 10]), (2, [9, 3, 7, 2, 8]), (1, [3, 2, 1]), (0, [2, 1])] := rfl
@[go_sem] theorem ann75_head : ann75.head = [(3, [9, 3, 7, 2, 8])] := rfl
/-- pilaster/tycon.shifted$1 -/
def ann76 : Ann := ⟨[4], [], [(3, [6]), (2, [6]), (1, [6, 3, 4, 17]), (0, [6, 3, 4, 2, 1])], []⟩
@[go_sem] theorem ann76_imm : ann76.imm = [4] := rfl
@[go_sem] theorem ann76_frz : ann76.frz = [] := rfl
@[go_sem] theorem ann76_live : ann76.live = [(3, [6]), (2, [6]), (1, [6, 3, 4, 17]), (0, [6, 3, 4, 2, 1])] := rfl
@[go_sem] theorem ann76_head : ann76.head = [] := rfl
/-- slices.Clone[[]string,string] -/
def ann77 : Ann := ⟨[], [], [(3, [2]), (2, [2]), (1, [0, 4]), (0, [0])], []⟩
@[go_sem] theorem ann77_imm : ann77.imm = [] := rfl
@[go_sem] theorem ann77_frz : ann77.frz = [] := rfl
@[go_sem] theorem ann77_live : ann77.live = [(3, [2]), (2, [2]), (1, [0, 4]), (0, [0])] := rfl
@[go_sem] theorem ann77_head : ann77.head = [] := rfl
/-- pilaster/tycon.binder -/
def ann78 : Ann := ⟨[1], [], [(1, [2]), (0, [1])], []⟩
@[go_sem] theorem ann78_imm : ann78.imm = [1] := rfl
@[go_sem] theorem ann78_frz : ann78.frz = [] := rfl
@[go_sem] theorem ann78_live : ann78.live = [(1, [2]), (0, [1])] := rfl
@[go_sem] theorem ann78_head : ann78.head = [] := rfl
/-- pilaster/pilasterref09.count -/
def ann79 : Ann := ⟨[3], [], [(8, [6]), (6, [8, 2, 7, 1, 3]), (7, [2, 7, 1, 3, 8]), (5, [2, 1, 3, 8, 7, 21]), (4, [8, 2, 7, 1, 3]), (3, [2, 7, 1, 3]), (2, [6]), (1, [1, 2, 3, 10]), (0, [1, 2, 3])], [(5, [8, 2, 7, 1, 3])]⟩
@[go_sem] theorem ann79_imm : ann79.imm = [3] := rfl
@[go_sem] theorem ann79_frz : ann79.frz = [] := rfl
@[go_sem] theorem ann79_live : ann79.live = [(8, [6]), (6, [8, 2, 7, 1, 3]), (7, [2, 7, 1, 3, 8]), (5, [2, 1, 3, 8, 7, 21]), (4, [8, 2, 7, 1, 3]), (3, [2, 7, 1, 3]), (2, [6]), (1, [1, 2, 3, 10]), (0, [1, 2, 3])] := rfl
@[go_sem] theorem ann79_head : ann79.head = [(5, [8, 2, 7, 1, 3])] := rfl
/-- pilaster/pilasterref09.node -/
def ann80 : Ann := ⟨[1], [], [(15, [2]), (14, [2]), (13, [1, 94]), (12, [2]), (11, [1, 86]), (8, [2]), (7, [1, 64]), (10, [2]), (9, [1, 67]), (6, [1, 56]), (5, [2]), (4, [1, 48]), (3, [1, 3]), (2, [2]), (1, [1, 11]), (0, [1])], []⟩
@[go_sem] theorem ann80_imm : ann80.imm = [1] := rfl
@[go_sem] theorem ann80_frz : ann80.frz = [] := rfl
@[go_sem] theorem ann80_live : ann80.live = [(15, [2]), (14, [2]), (13, [1, 94]), (12, [2]), (11, [1, 86]), (8, [2]), (7, [1, 64]), (10, [2]), (9, [1, 67]), (6, [1, 56]), (5, [2]), (4, [1, 48]), (3, [1, 3]), (2, [2]), (1, [1, 11]), (0, [1])] := rfl
@[go_sem] theorem ann80_head : ann80.head = [] := rfl
/-- pilaster/pilasterref09.Shift -/
def ann81 : Ann := ⟨[3], [], [(11, [6]), (9, [8, 2, 3, 1, 7, 6]), (10, [2, 3, 1, 7, 6, 8]), (8, [2, 3, 1, 6, 8, 7, 28]), (7, [8, 2, 3, 1, 7, 6]), (6, [2, 3, 1, 7, 6]), (5, [6]), (4, [6]), (3, [6, 1, 3, 17]), (2, [6, 1, 3, 2, 13]), (1, [6, 1, 3, 2]), (0, [6, 1, 3, 2])], [(8, [8, 2, 3, 1, 7, 6])]⟩
@[go_sem] theorem ann81_imm : ann81.imm = [3] := rfl
@[go_sem] theorem ann81_frz : ann81.frz = [] := rfl
@[go_sem] theorem ann81_live : ann81.live = [(11, [6]), (9, [8, 2, 3, 1, 7, 6]), (10, [2, 3, 1, 7, 6, 8]), (8, [2, 3, 1, 6, 8, 7, 28]), (7, [8, 2, 3, 1, 7, 6]), (6, [2, 3, 1, 7, 6]), (5, [6]), (4, [6]), (3, [6, 1, 3, 17]), (2, [6, 1, 3, 2, 13]), (1, [6, 1, 3, 2]), (0, [6, 1, 3, 2])] := rfl
@[go_sem] theorem ann81_head : ann81.head = [(8, [8, 2, 3, 1, 7, 6])] := rfl
/-- pilaster/pilasterref09.deep -/
def ann82 : Ann := ⟨[2], [], [(3, [4]), (2, [4]), (1, [1, 7]), (0, [1, 2])], []⟩
@[go_sem] theorem ann82_imm : ann82.imm = [2] := rfl
@[go_sem] theorem ann82_frz : ann82.frz = [] := rfl
@[go_sem] theorem ann82_live : ann82.live = [(3, [4]), (2, [4]), (1, [1, 7]), (0, [1, 2])] := rfl
@[go_sem] theorem ann82_head : ann82.head = [] := rfl
/-- pilaster/pilasterref09.inside -/
def ann83 : Ann := ⟨[2], [], [(1, [4]), (0, [4, 1, 2])], []⟩
@[go_sem] theorem ann83_imm : ann83.imm = [2] := rfl
@[go_sem] theorem ann83_frz : ann83.frz = [] := rfl
@[go_sem] theorem ann83_live : ann83.live = [(1, [4]), (0, [4, 1, 2])] := rfl
@[go_sem] theorem ann83_head : ann83.head = [] := rfl
/-- pilaster/tycon.parts -/
def ann84 : Ann := ⟨[1], [], [(9, [2]), (2, [2]), (4, [2]), (6, [2]), (8, [2]), (7, [21]), (5, [1, 18]), (3, [1, 12]), (1, [1, 3]), (0, [1])], []⟩
@[go_sem] theorem ann84_imm : ann84.imm = [1] := rfl
@[go_sem] theorem ann84_frz : ann84.frz = [] := rfl
@[go_sem] theorem ann84_live : ann84.live = [(9, [2]), (2, [2]), (4, [2]), (6, [2]), (8, [2]), (7, [21]), (5, [1, 18]), (3, [1, 12]), (1, [1, 3]), (0, [1])] := rfl
@[go_sem] theorem ann84_head : ann84.head = [] := rfl
/-- pilaster/tycon.constant -/
def ann85 : Ann := ⟨[], [], [(3, [2]), (2, [7, 3, 0, 5]), (1, [3, 0, 5, 4]), (0, [0])], []⟩
@[go_sem] theorem ann85_imm : ann85.imm = [] := rfl
@[go_sem] theorem ann85_frz : ann85.frz = [] := rfl
@[go_sem] theorem ann85_live : ann85.live = [(3, [2]), (2, [7, 3, 0, 5]), (1, [3, 0, 5, 4]), (0, [0])] := rfl
@[go_sem] theorem ann85_head : ann85.head = [] := rfl
/-- pilaster/kind.Valid -/
def ann86 : Ann := ⟨[1], [], [(2, [2]), (1, [4]), (0, [1])], []⟩
@[go_sem] theorem ann86_imm : ann86.imm = [1] := rfl
@[go_sem] theorem ann86_frz : ann86.frz = [] := rfl
@[go_sem] theorem ann86_live : ann86.live = [(2, [2]), (1, [4]), (0, [1])] := rfl
@[go_sem] theorem ann86_head : ann86.head = [] := rfl
/-- pilaster/tycon.labelled -/
def ann87 : Ann := ⟨[1], [], [(1, [2]), (0, [1])], []⟩
@[go_sem] theorem ann87_imm : ann87.imm = [1] := rfl
@[go_sem] theorem ann87_frz : ann87.frz = [] := rfl
@[go_sem] theorem ann87_live : ann87.live = [(1, [2]), (0, [1])] := rfl
@[go_sem] theorem ann87_head : ann87.head = [] := rfl
/-- pilaster/ident.Ascending -/
def ann88 : Ann := ⟨[], [], [(6, [2]), (3, [3, 0]), (5, [2]), (4, [0, 3, 19]), (2, [0, 3, 7]), (1, [3, 0]), (0, [0])], [(2, [3, 0])]⟩
@[go_sem] theorem ann88_imm : ann88.imm = [] := rfl
@[go_sem] theorem ann88_frz : ann88.frz = [] := rfl
@[go_sem] theorem ann88_live : ann88.live = [(6, [2]), (3, [3, 0]), (5, [2]), (4, [0, 3, 19]), (2, [0, 3, 7]), (1, [3, 0]), (0, [0])] := rfl
@[go_sem] theorem ann88_head : ann88.head = [(2, [3, 0])] := rfl
/-- pilaster/tycon.formed$1 -/
def ann89 : Ann := ⟨[], [], [(1, [2]), (0, [0])], []⟩
@[go_sem] theorem ann89_imm : ann89.imm = [] := rfl
@[go_sem] theorem ann89_frz : ann89.frz = [] := rfl
@[go_sem] theorem ann89_live : ann89.live = [(1, [2]), (0, [0])] := rfl
@[go_sem] theorem ann89_head : ann89.head = [] := rfl
/-- pilaster/ident.IsLabel -/
def ann90 : Ann := ⟨[], [], [(9, [2]), (8, [15, 13, 14]), (7, [2]), (6, [13, 14, 15, 21]), (5, [13, 14, 15, 4]), (4, [13, 14, 15, 16]), (3, [15, 13, 14]), (2, [2]), (1, [0, 11]), (0, [0])], [(4, [15, 13, 14])]⟩
@[go_sem] theorem ann90_imm : ann90.imm = [] := rfl
@[go_sem] theorem ann90_frz : ann90.frz = [] := rfl
@[go_sem] theorem ann90_live : ann90.live = [(9, [2]), (8, [15, 13, 14]), (7, [2]), (6, [13, 14, 15, 21]), (5, [13, 14, 15, 4]), (4, [13, 14, 15, 16]), (3, [15, 13, 14]), (2, [2]), (1, [0, 11]), (0, [0])] := rfl
@[go_sem] theorem ann90_head : ann90.head = [(4, [15, 13, 14])] := rfl
/-- pilaster/tycon.formed$2 -/
def ann91 : Ann := ⟨[1], [], [(1, [2]), (0, [1])], []⟩
@[go_sem] theorem ann91_imm : ann91.imm = [1] := rfl
@[go_sem] theorem ann91_frz : ann91.frz = [] := rfl
@[go_sem] theorem ann91_live : ann91.live = [(1, [2]), (0, [1])] := rfl
@[go_sem] theorem ann91_head : ann91.head = [] := rfl
/-- slices.EqualFunc[[]pilaster/api.Kind,[]pilaster/api.Kind,pilaster/api.Kind,pilaster/api.Kind] -/
def ann92 : Ann := ⟨[], [], [(10, [6]), (9, [17, 2, 1, 15, 16]), (8, [6]), (7, [2, 1, 15, 16, 17, 30]), (6, [2, 1, 15, 16, 17, 9, 8]), (5, [2, 1, 15, 16, 17, 8, 7]), (4, [2, 1, 15, 16, 17, 18]), (3, [17, 2, 1, 15, 16]), (2, [6]), (1, [2, 1, 0, 14]), (0, [2, 1, 0])], [(4, [17, 2, 1, 15, 16])]⟩
@[go_sem] theorem ann92_imm : ann92.imm = [] := rfl
@[go_sem] theorem ann92_frz : ann92.frz = [] := rfl
@[go_sem] theorem ann92_live : ann92.live = [(10, [6]), (9, [17, 2, 1, 15, 16]), (8, [6]), (7, [2, 1, 15, 16, 17, 30]), (6, [2, 1, 15, 16, 17, 9, 8]), (5, [2, 1, 15, 16, 17, 8, 7]), (4, [2, 1, 15, 16, 17, 18]), (3, [17, 2, 1, 15, 16]), (2, [6]), (1, [2, 1, 0, 14]), (0, [2, 1, 0])] := rfl
@[go_sem] theorem ann92_head : ann92.head = [(4, [17, 2, 1, 15, 16])] := rfl
/-- pilaster/tycon.copied$1 -/
def ann93 : Ann := ⟨[2], [], [(1, [4]), (0, [4, 2])], []⟩
@[go_sem] theorem ann93_imm : ann93.imm = [2] := rfl
@[go_sem] theorem ann93_frz : ann93.frz = [] := rfl
@[go_sem] theorem ann93_live : ann93.live = [(1, [4]), (0, [4, 2])] := rfl
@[go_sem] theorem ann93_head : ann93.head = [] := rfl
/-- internal/strconv.Itoa -/
def ann94 : Ann := ⟨[], [], [(1, [2]), (0, [0])], []⟩
@[go_sem] theorem ann94_imm : ann94.imm = [] := rfl
@[go_sem] theorem ann94_frz : ann94.frz = [] := rfl
@[go_sem] theorem ann94_live : ann94.live = [(1, [2]), (0, [0])] := rfl
@[go_sem] theorem ann94_head : ann94.head = [] := rfl
/-- slices.pdqsortOrdered[int] -/
def ann95 : Ann := ⟨[], [], [(27, [2, 1, 0, 9, 8, 3]), (26, [2, 0, 9, 8, 3, 14]), (25, [2, 0, 9, 8, 3, 14, 1]), (30, [2, 1, 0, 9, 8, 3]), (29, [1, 0, 9, 8, 3, 14]), (28, [1, 0, 9, 8, 3, 14, 2]), (24, [2, 0, 9, 3, 14, 1, 18, 16, 17, 113]), (23, [2, 0, 9, 3, 14, 1, 18, 16, 17]), (22, [2, 0, 9, 3, 14, 1, 16, 17, 10]), (21, [2, 0, 9, 3, 14, 1, 10]), (20, [2, 0, 3, 14, 1, 10, 15]), (19, [2, 1, 0, 9, 8, 3]), (18, [2, 0, 9, 8, 3, 13]), (17, [2, 0, 9, 8, 3, 11, 1, 10, 87]), (16, [2, 0, 9, 8, 3, 11, 1, 10, 72]), (15, [2, 0, 9, 8, 3, 11, 1, 10, 68]), (14, [2, 0, 9, 8, 3, 11, 1, 10, 12]), (13, [2, 0, 9, 8, 3, 11, 1, 10]), (12, [2, 0, 9, 8, 3, 1, 10, 11]), (11, [2, 0, 9, 8, 3, 1, 10, 11, 12, 50]), (10, [2, 0, 9, 8, 3, 1, 10, 11, 12]), (9, [2, 0, 9, 8, 3, 1, 10]), (8, [2, 0, 9, 8, 1, 10, 3]), (7, [2, 0, 9, 8, 1, 10, 3, 35]), (6, []), (5, [2, 1, 0, 9, 8, 10, 3, 29]), (4, []), (3, [2, 1, 0, 9, 8, 10, 3, 23]), (2, [2, 1, 0, 9, 8, 10, 3]), (1, [2, 1, 0, 9, 8, 3]), (0, [2, 1, 0, 8, 3])], [(1, [2, 1, 0, 9, 8, 3])]⟩
@[go_sem] theorem ann95_imm : ann95.imm = [] := rfl
@[go_sem] theorem ann95_frz : ann95.frz = [] := rfl
@[go_sem] theorem ann95_live : ann95.live = [(27, [2, 1, 0, 9, 8, 3]), (26, [2, 0, 9, 8, 3, 14]), (25, [2, 0, 9, 8, 3, 14, 1]), (30, [2, 1, 0, 9, 8, 3]), (29, [1, 0, 9, 8, 3, 14]), (28, [1, 0, 9, 8, 3, 14, 2]), (24, [2, 0, 9, 3, 14, 1, 18, 16, 17, 113]), (23, [2, 0, 9, 3, 14, 1, 18, 16, 17]), (22, [2, 0, 9, 3, 14, 1, 16, 17, 10]), (21, [2, 0, 9, 3, 14, 1, 10]), (20, [2, 0, 3, 14, 1, 10, 15]), (19, [2, 1, 0, 9, 8, 3]), (18, [2, 0, 9, 8, 3, 13]), (17, [2, 0, 9, 8, 3, 11, 1, 10, 87]), (16, [2, 0, 9, 8, 3, 11, 1, 10, 72]), (15, [2, 0, 9, 8, 3, 11, 1, 10, 68]), (14, [2, 0, 9, 8, 3, 11, 1, 10, 12]), (13, [2, 0, 9, 8, 3, 11, 1, 10]), (12, [2, 0, 9, 8, 3, 1, 10, 11]), (11, [2, 0, 9, 8, 3, 1, 10, 11, 12, 50]), (10, [2, 0, 9, 8, 3, 1, 10, 11, 12]), (9, [2, 0, 9, 8, 3, 1, 10]), (8, [2, 0, 9, 8, 1, 10, 3]), (7, [2, 0, 9, 8, 1, 10, 3, 35]), (6, []), (5, [2, 1, 0, 9, 8, 10, 3, 29]), (4, []), (3, [2, 1, 0, 9, 8, 10, 3, 23]), (2, [2, 1, 0, 9, 8, 10, 3]), (1, [2, 1, 0, 9, 8, 3]), (0, [2, 1, 0, 8, 3])] := rfl
@[go_sem] theorem ann95_head : ann95.head = [(1, [2, 1, 0, 9, 8, 3])] := rfl
/-- math/bits.Len -/
def ann96 : Ann := ⟨[], [], [(2, [2]), (1, [2]), (0, [0])], []⟩
@[go_sem] theorem ann96_imm : ann96.imm = [] := rfl
@[go_sem] theorem ann96_frz : ann96.frz = [] := rfl
@[go_sem] theorem ann96_live : ann96.live = [(2, [2]), (1, [2]), (0, [0])] := rfl
@[go_sem] theorem ann96_head : ann96.head = [] := rfl
/-- slices.IndexFunc[[]string,string] -/
def ann97 : Ann := ⟨[], [], [(7, [4]), (6, [8, 0, 1, 7]), (5, [4]), (4, [5, 0, 1, 7, 8, 16]), (3, [5, 0, 1, 7, 8]), (2, [0, 1, 7, 8, 9]), (1, [8, 0, 1, 7]), (0, [0, 1])], [(2, [8, 0, 1, 7])]⟩
@[go_sem] theorem ann97_imm : ann97.imm = [] := rfl
@[go_sem] theorem ann97_frz : ann97.frz = [] := rfl
@[go_sem] theorem ann97_live : ann97.live = [(7, [4]), (6, [8, 0, 1, 7]), (5, [4]), (4, [5, 0, 1, 7, 8, 16]), (3, [5, 0, 1, 7, 8]), (2, [0, 1, 7, 8, 9]), (1, [8, 0, 1, 7]), (0, [0, 1])] := rfl
@[go_sem] theorem ann97_head : ann97.head = [(2, [8, 0, 1, 7])] := rfl
/-- pilaster/pilasterref09.parts -/
def ann98 : Ann := ⟨[], [], [(7, [2]), (6, [2]), (5, [16]), (4, [2]), (3, [0, 14]), (2, [2]), (1, [0, 8]), (0, [0])], []⟩
@[go_sem] theorem ann98_imm : ann98.imm = [] := rfl
@[go_sem] theorem ann98_frz : ann98.frz = [] := rfl
@[go_sem] theorem ann98_live : ann98.live = [(7, [2]), (6, [2]), (5, [16]), (4, [2]), (3, [0, 14]), (2, [2]), (1, [0, 8]), (0, [0])] := rfl
@[go_sem] theorem ann98_head : ann98.head = [] := rfl
/-- pilaster/pilasterref09.labels -/
def ann99 : Ann := ⟨[], [], [(6, [2]), (3, [3, 0]), (5, [2]), (4, [0, 3, 15]), (2, [0, 3, 7]), (1, [3, 0]), (0, [0])], [(2, [3, 0])]⟩
@[go_sem] theorem ann99_imm : ann99.imm = [] := rfl
@[go_sem] theorem ann99_frz : ann99.frz = [] := rfl
@[go_sem] theorem ann99_live : ann99.live = [(6, [2]), (3, [3, 0]), (5, [2]), (4, [0, 3, 15]), (2, [0, 3, 7]), (1, [3, 0]), (0, [0])] := rfl
@[go_sem] theorem ann99_head : ann99.head = [(2, [3, 0])] := rfl
/-- pilaster/pilasterref09.ConstName -/
def ann100 : Ann := ⟨[], [], [(9, [2]), (5, [3, 0]), (8, [2]), (7, [5, 3, 0]), (6, [3, 0, 18]), (4, [3, 0, 12]), (3, [3, 0]), (2, [2]), (1, [0, 8]), (0, [0])], [(4, [3, 0])]⟩
@[go_sem] theorem ann100_imm : ann100.imm = [] := rfl
@[go_sem] theorem ann100_frz : ann100.frz = [] := rfl
@[go_sem] theorem ann100_live : ann100.live = [(9, [2]), (5, [3, 0]), (8, [2]), (7, [5, 3, 0]), (6, [3, 0, 18]), (4, [3, 0, 12]), (3, [3, 0]), (2, [2]), (1, [0, 8]), (0, [0])] := rfl
@[go_sem] theorem ann100_head : ann100.head = [(4, [3, 0])] := rfl
/-- pilaster/pilasterref09.Binder -/
def ann101 : Ann := ⟨[], [], [(1, [2]), (0, [0])], []⟩
@[go_sem] theorem ann101_imm : ann101.imm = [] := rfl
@[go_sem] theorem ann101_frz : ann101.frz = [] := rfl
@[go_sem] theorem ann101_live : ann101.live = [(1, [2]), (0, [0])] := rfl
@[go_sem] theorem ann101_head : ann101.head = [] := rfl
/-- pilaster/pilasterref08.Valid -/
def ann102 : Ann := ⟨[1], [], [(1, [2]), (0, [1])], []⟩
@[go_sem] theorem ann102_imm : ann102.imm = [1] := rfl
@[go_sem] theorem ann102_frz : ann102.frz = [] := rfl
@[go_sem] theorem ann102_live : ann102.live = [(1, [2]), (0, [1])] := rfl
@[go_sem] theorem ann102_head : ann102.head = [] := rfl
/-- strings.Cut -/
def ann103 : Ann := ⟨[], [], [(1, [4, 5, 6]), (0, [1, 0])], []⟩
@[go_sem] theorem ann103_imm : ann103.imm = [] := rfl
@[go_sem] theorem ann103_frz : ann103.frz = [] := rfl
@[go_sem] theorem ann103_live : ann103.live = [(1, [4, 5, 6]), (0, [1, 0])] := rfl
@[go_sem] theorem ann103_head : ann103.head = [] := rfl
/-- pilaster/ident.Number -/
def ann104 : Ann := ⟨[], [], [(12, [2, 3]), (11, [2, 3]), (10, [6, 41]), (9, [6, 7]), (8, [23, 21, 0, 22]), (7, [2, 3]), (6, [21, 0, 22, 23, 29]), (5, [21, 0, 22, 23, 5]), (4, [21, 0, 22, 23, 24]), (3, [23, 21, 0, 22]), (2, [2, 3]), (1, [0, 19]), (0, [0])], [(4, [23, 21, 0, 22])]⟩
@[go_sem] theorem ann104_imm : ann104.imm = [] := rfl
@[go_sem] theorem ann104_frz : ann104.frz = [] := rfl
@[go_sem] theorem ann104_live : ann104.live = [(12, [2, 3]), (11, [2, 3]), (10, [6, 41]), (9, [6, 7]), (8, [23, 21, 0, 22]), (7, [2, 3]), (6, [21, 0, 22, 23, 29]), (5, [21, 0, 22, 23, 5]), (4, [21, 0, 22, 23, 24]), (3, [23, 21, 0, 22]), (2, [2, 3]), (1, [0, 19]), (0, [0])] := rfl
@[go_sem] theorem ann104_head : ann104.head = [(4, [23, 21, 0, 22])] := rfl
/-- pilaster/ident.IsUpper -/
def ann105 : Ann := ⟨[], [], [(1, [2]), (0, [0])], []⟩
@[go_sem] theorem ann105_imm : ann105.imm = [] := rfl
@[go_sem] theorem ann105_frz : ann105.frz = [] := rfl
@[go_sem] theorem ann105_live : ann105.live = [(1, [2]), (0, [0])] := rfl
@[go_sem] theorem ann105_head : ann105.head = [] := rfl
/-- pilaster/kind.size -/
def ann106 : Ann := ⟨[3], [], [(12, [6, 7]), (11, [34, 8, 2, 1, 32, 33]), (10, [8, 2, 1, 32, 33, 34]), (9, [6, 7]), (8, [2, 1, 32, 33, 34, 11, 8, 49]), (7, [2, 1, 32, 33, 34, 11, 8, 12]), (6, [2, 1, 32, 33, 34, 8, 10]), (5, [2, 1, 32, 33, 34, 8, 35]), (4, [34, 8, 2, 1, 32, 33]), (3, [8, 2, 1, 3]), (2, [6, 7]), (1, [2, 1, 3, 30]), (0, [2, 1, 3])], [(5, [34, 8, 2, 1, 32, 33])]⟩
@[go_sem] theorem ann106_imm : ann106.imm = [3] := rfl
@[go_sem] theorem ann106_frz : ann106.frz = [] := rfl
@[go_sem] theorem ann106_live : ann106.live = [(12, [6, 7]), (11, [34, 8, 2, 1, 32, 33]), (10, [8, 2, 1, 32, 33, 34]), (9, [6, 7]), (8, [2, 1, 32, 33, 34, 11, 8, 49]), (7, [2, 1, 32, 33, 34, 11, 8, 12]), (6, [2, 1, 32, 33, 34, 8, 10]), (5, [2, 1, 32, 33, 34, 8, 35]), (4, [34, 8, 2, 1, 32, 33]), (3, [8, 2, 1, 3]), (2, [6, 7]), (1, [2, 1, 3, 30]), (0, [2, 1, 3])] := rfl
@[go_sem] theorem ann106_head : ann106.head = [(5, [34, 8, 2, 1, 32, 33])] := rfl
/-- pilaster/ident.of -/
def ann107 : Ann := ⟨[], [], [(11, [2]), (2, [2]), (4, [2]), (6, [2]), (8, [2]), (10, [2]), (9, [27]), (7, [0, 24]), (5, [0, 17]), (3, [0, 10]), (1, [0, 3]), (0, [0])], []⟩
@[go_sem] theorem ann107_imm : ann107.imm = [] := rfl
@[go_sem] theorem ann107_frz : ann107.frz = [] := rfl
@[go_sem] theorem ann107_live : ann107.live = [(11, [2]), (2, [2]), (4, [2]), (6, [2]), (8, [2]), (10, [2]), (9, [27]), (7, [0, 24]), (5, [0, 17]), (3, [0, 10]), (1, [0, 3]), (0, [0])] := rfl
@[go_sem] theorem ann107_head : ann107.head = [] := rfl
/-- internal/strconv.FormatInt -/
def ann108 : Ann := ⟨[], [], [(15, [4]), (14, [9]), (13, [4]), (12, [4]), (11, [5, 7]), (10, [5, 7, 34]), (9, [5, 7, 0]), (8, [5, 7, 0, 6]), (7, [5, 0, 6]), (6, [5, 0, 6, 23]), (5, [5, 0, 6]), (4, [5, 0]), (3, [4]), (2, [0, 17]), (1, [0, 1, 11]), (0, [0, 1])], []⟩
@[go_sem] theorem ann108_imm : ann108.imm = [] := rfl
@[go_sem] theorem ann108_frz : ann108.frz = [] := rfl
@[go_sem] theorem ann108_live : ann108.live = [(15, [4]), (14, [9]), (13, [4]), (12, [4]), (11, [5, 7]), (10, [5, 7, 34]), (9, [5, 7, 0]), (8, [5, 7, 0, 6]), (7, [5, 0, 6]), (6, [5, 0, 6, 23]), (5, [5, 0, 6]), (4, [5, 0]), (3, [4]), (2, [0, 17]), (1, [0, 1, 11]), (0, [0, 1])] := rfl
@[go_sem] theorem ann108_head : ann108.head = [] := rfl
/-- slices.insertionSortOrdered[int] -/
def ann109 : Ann := ⟨[], [], [(2, [0, 6, 1, 2]), (5, [7, 0, 1, 2, 6]), (6, [0, 1, 2, 6, 7]), (4, [0, 1, 2, 6, 7, 30]), (3, [7, 0, 1, 2, 6]), (1, [0, 1, 2, 6, 12]), (0, [0, 6, 1, 2])], [(4, [7, 0, 1, 2, 6]), (1, [0, 6, 1, 2])]⟩
@[go_sem] theorem ann109_imm : ann109.imm = [] := rfl
@[go_sem] theorem ann109_frz : ann109.frz = [] := rfl
@[go_sem] theorem ann109_live : ann109.live = [(2, [0, 6, 1, 2]), (5, [7, 0, 1, 2, 6]), (6, [0, 1, 2, 6, 7]), (4, [0, 1, 2, 6, 7, 30]), (3, [7, 0, 1, 2, 6]), (1, [0, 1, 2, 6, 12]), (0, [0, 6, 1, 2])] := rfl
@[go_sem] theorem ann109_head : ann109.head = [(4, [7, 0, 1, 2, 6]), (1, [0, 6, 1, 2])] := rfl
/-- slices.heapSortOrdered[int] -/
def ann110 : Ann := ⟨[], [], [(9, [10, 6, 7, 0]), (11, [6, 7, 0, 10]), (10, [6, 7, 0, 10]), (8, [6, 7, 0, 10, 30]), (7, [10, 6, 7, 0]), (5, [9, 6, 8, 0, 7]), (6, [6, 8, 0, 7, 9]), (4, [6, 8, 0, 7, 9, 19]), (3, [9, 6, 8, 0, 7]), (2, [6, 8, 0, 7]), (1, [6, 0, 7, 1, 2]), (0, [6, 0, 1, 2])], [(8, [10, 6, 7, 0]), (4, [9, 6, 8, 0, 7])]⟩
@[go_sem] theorem ann110_imm : ann110.imm = [] := rfl
@[go_sem] theorem ann110_frz : ann110.frz = [] := rfl
@[go_sem] theorem ann110_live : ann110.live = [(9, [10, 6, 7, 0]), (11, [6, 7, 0, 10]), (10, [6, 7, 0, 10]), (8, [6, 7, 0, 10, 30]), (7, [10, 6, 7, 0]), (5, [9, 6, 8, 0, 7]), (6, [6, 8, 0, 7, 9]), (4, [6, 8, 0, 7, 9, 19]), (3, [9, 6, 8, 0, 7]), (2, [6, 8, 0, 7]), (1, [6, 0, 7, 1, 2]), (0, [6, 0, 1, 2])] := rfl
@[go_sem] theorem ann110_head : ann110.head = [(8, [10, 6, 7, 0]), (4, [9, 6, 8, 0, 7])] := rfl
/-- slices.breakPatternsOrdered[int] -/
def ann111 : Ann := ⟨[], [], [(6, [9, 0, 1, 6, 8, 7]), (10, [0, 1, 6, 8, 7, 9]), (9, [0, 1, 6, 8, 7, 9, 10]), (8, [0, 1, 6, 8, 7, 9, 10, 43]), (7, [0, 1, 6, 8, 7, 9, 10]), (5, [0, 1, 6, 8, 7, 9, 33]), (4, [9, 0, 1, 6, 8, 7]), (3, [0, 1, 6, 8, 7]), (2, [0, 1, 6, 7]), (1, [0, 1, 6, 15]), (0, [0, 1, 6])], [(5, [9, 0, 1, 6, 8, 7])]⟩
@[go_sem] theorem ann111_imm : ann111.imm = [] := rfl
@[go_sem] theorem ann111_frz : ann111.frz = [] := rfl
@[go_sem] theorem ann111_live : ann111.live = [(6, [9, 0, 1, 6, 8, 7]), (10, [0, 1, 6, 8, 7, 9]), (9, [0, 1, 6, 8, 7, 9, 10]), (8, [0, 1, 6, 8, 7, 9, 10, 43]), (7, [0, 1, 6, 8, 7, 9, 10]), (5, [0, 1, 6, 8, 7, 9, 33]), (4, [9, 0, 1, 6, 8, 7]), (3, [0, 1, 6, 8, 7]), (2, [0, 1, 6, 7]), (1, [0, 1, 6, 15]), (0, [0, 1, 6])] := rfl
@[go_sem] theorem ann111_head : ann111.head = [(5, [9, 0, 1, 6, 8, 7])] := rfl
/-- slices.choosePivotOrdered[int] -/
def ann112 : Ann := ⟨[], [], [(15, [6, 7]), (17, [6, 7]), (13, [6, 7]), (16, [11, 54]), (14, [11, 49, 51]), (12, [11, 49]), (11, [11, 9]), (10, [9, 12, 11, 10, 0]), (9, [9, 11, 10, 0, 12]), (8, [9, 10, 0, 12, 11]), (7, [9, 0, 12, 11, 10, 34]), (6, [9, 0, 12, 11, 10, 8, 32]), (5, [9, 0, 12, 11, 10, 8]), (4, [9, 0, 11, 10, 8, 1]), (3, [9, 0, 10, 8, 1]), (2, [9, 0, 8, 1]), (1, [0, 8, 1]), (0, [0, 1, 2])], []⟩
@[go_sem] theorem ann112_imm : ann112.imm = [] := rfl
@[go_sem] theorem ann112_frz : ann112.frz = [] := rfl
@[go_sem] theorem ann112_live : ann112.live = [(15, [6, 7]), (17, [6, 7]), (13, [6, 7]), (16, [11, 54]), (14, [11, 49, 51]), (12, [11, 49]), (11, [11, 9]), (10, [9, 12, 11, 10, 0]), (9, [9, 11, 10, 0, 12]), (8, [9, 10, 0, 12, 11]), (7, [9, 0, 12, 11, 10, 34]), (6, [9, 0, 12, 11, 10, 8, 32]), (5, [9, 0, 12, 11, 10, 8]), (4, [9, 0, 11, 10, 8, 1]), (3, [9, 0, 10, 8, 1]), (2, [9, 0, 8, 1]), (1, [0, 8, 1]), (0, [0, 1, 2])] := rfl
@[go_sem] theorem ann112_head : ann112.head = [] := rfl
/-- slices.reverseRangeOrdered[int] -/
def ann113 : Ann := ⟨[], [], [(5, [7, 6, 0]), (4, [6, 0, 7]), (3, [0, 7, 6]), (2, [0, 7, 6, 13]), (1, [7, 6, 0]), (0, [6, 0, 2])], [(2, [7, 6, 0])]⟩
@[go_sem] theorem ann113_imm : ann113.imm = [] := rfl
@[go_sem] theorem ann113_frz : ann113.frz = [] := rfl
@[go_sem] theorem ann113_live : ann113.live = [(5, [7, 6, 0]), (4, [6, 0, 7]), (3, [0, 7, 6]), (2, [0, 7, 6, 13]), (1, [7, 6, 0]), (0, [6, 0, 2])] := rfl
@[go_sem] theorem ann113_head : ann113.head = [(2, [7, 6, 0])] := rfl
/-- slices.partialInsertionSortOrdered[int] -/
def ann114 : Ann := ⟨[], [], [(24, [6]), (4, [7, 8, 0, 2, 1]), (21, [7, 0, 2, 1, 8, 10]), (23, [7, 0, 2, 1, 8, 10]), (22, [7, 0, 2, 1, 8, 10, 116]), (20, [7, 0, 2, 1, 8, 10, 103]), (19, [7, 0, 2, 1, 8, 10]), (18, [7, 0, 2, 1, 8, 98]), (15, [7, 0, 2, 1, 8, 9]), (17, [7, 0, 2, 1, 8, 9]), (16, [7, 0, 2, 1, 8, 9, 78]), (14, [7, 0, 2, 1, 8, 9, 65]), (13, [7, 0, 2, 1, 8, 9]), (12, [7, 0, 2, 1, 8, 61]), (11, [7, 0, 2, 1, 8]), (10, [6]), (9, [7, 0, 2, 1, 8, 41]), (8, [6]), (7, [7, 0, 2, 1, 8, 37]), (6, [7, 0, 2, 1, 8]), (5, [0, 2, 1, 8, 7, 32]), (3, [7, 0, 2, 1, 8, 14]), (2, [7, 8, 0, 2, 1]), (1, [7, 0, 2, 1]), (0, [0, 2, 1])], [(20, [7, 0, 2, 1, 8, 10]), (14, [7, 0, 2, 1, 8, 9]), (5, [7, 0, 2, 1, 8]), (3, [7, 8, 0, 2, 1])]⟩
@[go_sem] theorem ann114_imm : ann114.imm = [] := rfl
@[go_sem] theorem ann114_frz : ann114.frz = [] := rfl
@[go_sem] theorem ann114_live : ann114.live = [(24, [6]), (4, [7, 8, 0, 2, 1]), (21, [7, 0, 2, 1, 8, 10]), (23, [7, 0, 2, 1, 8, 10]), (22, [7, 0, 2, 1, 8, 10, 116]), (20, [7, 0, 2, 1, 8, 10, 103]), (19, [7, 0, 2, 1, 8, 10]), (18, [7, 0, 2, 1, 8, 98]), (15, [7, 0, 2, 1, 8, 9]), (17, [7, 0, 2, 1, 8, 9]), (16, [7, 0, 2, 1, 8, 9, 78]), (14, [7, 0, 2, 1, 8, 9, 65]), (13, [7, 0, 2, 1, 8, 9]), (12, [7, 0, 2, 1, 8, 61]), (11, [7, 0, 2, 1, 8]), (10, [6]), (9, [7, 0, 2, 1, 8, 41]), (8, [6]), (7, [7, 0, 2, 1, 8, 37]), (6, [7, 0, 2, 1, 8]), (5, [0, 2, 1, 8, 7, 32]), (3, [7, 0, 2, 1, 8, 14]), (2, [7, 8, 0, 2, 1]), (1, [7, 0, 2, 1]), (0, [0, 2, 1])] := rfl
@[go_sem] theorem ann114_head : ann114.head = [(20, [7, 0, 2, 1, 8, 10]), (14, [7, 0, 2, 1, 8, 9]), (5, [7, 0, 2, 1, 8]), (3, [7, 8, 0, 2, 1])] := rfl
/-- cmp.Less[int] -/
def ann115 : Ann := ⟨[], [], [(1, [4]), (0, [1, 0])], []⟩
@[go_sem] theorem ann115_imm : ann115.imm = [] := rfl
@[go_sem] theorem ann115_frz : ann115.frz = [] := rfl
@[go_sem] theorem ann115_live : ann115.live = [(1, [4]), (0, [1, 0])] := rfl
@[go_sem] theorem ann115_head : ann115.head = [] := rfl
/-- slices.partitionEqualOrdered[int] -/
def ann116 : Ann := ⟨[], [], [(11, [8]), (10, [9, 10, 0, 1]), (9, [9, 0, 1, 10]), (8, [0, 1, 10, 9]), (7, [9, 0, 1, 10, 64]), (6, [10, 9, 0, 1]), (5, [9, 0, 1, 10, 59]), (4, [9, 10, 0, 1]), (3, [10, 0, 1, 9, 43]), (2, [9, 10, 0, 1]), (1, [0, 1, 2]), (0, [0, 1, 2, 3])], [(5, [10, 9, 0, 1]), (3, [9, 10, 0, 1]), (1, [9, 10, 0, 1])]⟩
@[go_sem] theorem ann116_imm : ann116.imm = [] := rfl
@[go_sem] theorem ann116_frz : ann116.frz = [] := rfl
@[go_sem] theorem ann116_live : ann116.live = [(11, [8]), (10, [9, 10, 0, 1]), (9, [9, 0, 1, 10]), (8, [0, 1, 10, 9]), (7, [9, 0, 1, 10, 64]), (6, [10, 9, 0, 1]), (5, [9, 0, 1, 10, 59]), (4, [9, 10, 0, 1]), (3, [10, 0, 1, 9, 43]), (2, [9, 10, 0, 1]), (1, [0, 1, 2]), (0, [0, 1, 2, 3])] := rfl
@[go_sem] theorem ann116_head : ann116.head = [(5, [10, 9, 0, 1]), (3, [9, 10, 0, 1]), (1, [9, 10, 0, 1])] := rfl
/-- slices.partitionOrdered[int] -/
def ann117 : Ann := ⟨[], [], [(22, [8, 9]), (21, [11]), (20, [10, 11, 0, 1]), (19, [10, 0, 1, 11]), (18, [0, 1, 11, 10]), (17, [11, 0, 1, 10, 134]), (16, [11, 0, 1, 10]), (15, [0, 1, 10, 11, 129]), (14, [10, 11, 0, 1]), (13, [11, 0, 1, 10, 112]), (12, [10, 11, 0, 1]), (11, [10, 0, 1, 11]), (10, [0, 1, 11, 10]), (9, [8, 9]), (8, [11]), (7, [11, 0, 1, 10, 65]), (6, [11, 0, 1, 10]), (5, [0, 1, 10, 11, 60]), (4, [10, 11, 0, 1]), (3, [11, 0, 1, 10, 43]), (2, [10, 11, 0, 1]), (1, [0, 1, 2]), (0, [0, 1, 2, 3])], [(15, [11, 0, 1, 10]), (13, [10, 11, 0, 1]), (5, [11, 0, 1, 10]), (3, [10, 11, 0, 1])]⟩
@[go_sem] theorem ann117_imm : ann117.imm = [] := rfl
@[go_sem] theorem ann117_frz : ann117.frz = [] := rfl
@[go_sem] theorem ann117_live : ann117.live = [(22, [8, 9]), (21, [11]), (20, [10, 11, 0, 1]), (19, [10, 0, 1, 11]), (18, [0, 1, 11, 10]), (17, [11, 0, 1, 10, 134]), (16, [11, 0, 1, 10]), (15, [0, 1, 10, 11, 129]), (14, [10, 11, 0, 1]), (13, [11, 0, 1, 10, 112]), (12, [10, 11, 0, 1]), (11, [10, 0, 1, 11]), (10, [0, 1, 11, 10]), (9, [8, 9]), (8, [11]), (7, [11, 0, 1, 10, 65]), (6, [11, 0, 1, 10]), (5, [0, 1, 10, 11, 60]), (4, [10, 11, 0, 1]), (3, [11, 0, 1, 10, 43]), (2, [10, 11, 0, 1]), (1, [0, 1, 2]), (0, [0, 1, 2, 3])] := rfl
@[go_sem] theorem ann117_head : ann117.head = [(15, [11, 0, 1, 10]), (13, [10, 11, 0, 1]), (5, [11, 0, 1, 10]), (3, [10, 11, 0, 1])] := rfl
/-- math/bits.Len32 -/
def ann118 : Ann := ⟨[], [], [(7, [2]), (6, [0, 2]), (5, [0, 2]), (4, [2, 0, 8]), (3, [2, 0]), (2, [0]), (1, [0, 2, 4]), (0, [0, 2])], []⟩
@[go_sem] theorem ann118_imm : ann118.imm = [] := rfl
@[go_sem] theorem ann118_frz : ann118.frz = [] := rfl
@[go_sem] theorem ann118_live : ann118.live = [(7, [2]), (6, [0, 2]), (5, [0, 2]), (4, [2, 0, 8]), (3, [2, 0]), (2, [0]), (1, [0, 2, 4]), (0, [0, 2])] := rfl
@[go_sem] theorem ann118_head : ann118.head = [] := rfl
/-- math/bits.Len64 -/
def ann119 : Ann := ⟨[], [], [(10, [2]), (9, [0, 2]), (8, [0, 2]), (7, [2, 0, 14]), (6, [2, 0]), (5, [0, 2]), (4, [2, 0, 8]), (3, [2, 0]), (2, [0]), (1, [0, 2, 4]), (0, [0, 2])], []⟩
@[go_sem] theorem ann119_imm : ann119.imm = [] := rfl
@[go_sem] theorem ann119_frz : ann119.frz = [] := rfl
@[go_sem] theorem ann119_live : ann119.live = [(10, [2]), (9, [0, 2]), (8, [0, 2]), (7, [2, 0, 14]), (6, [2, 0]), (5, [0, 2]), (4, [2, 0, 8]), (3, [2, 0]), (2, [0]), (1, [0, 2, 4]), (0, [0, 2])] := rfl
@[go_sem] theorem ann119_head : ann119.head = [] := rfl
/-- pilaster/pilasterref01.IsLabel -/
def ann120 : Ann := ⟨[], [], [(6, [2]), (3, [3, 0]), (5, [2]), (4, [0, 3, 20]), (2, [0, 3, 7]), (1, [3, 0]), (0, [0])], [(2, [3, 0])]⟩
@[go_sem] theorem ann120_imm : ann120.imm = [] := rfl
@[go_sem] theorem ann120_frz : ann120.frz = [] := rfl
@[go_sem] theorem ann120_live : ann120.live = [(6, [2]), (3, [3, 0]), (5, [2]), (4, [0, 3, 20]), (2, [0, 3, 7]), (1, [3, 0]), (0, [0])] := rfl
@[go_sem] theorem ann120_head : ann120.head = [(2, [3, 0])] := rfl
/-- pilaster/pilasterref01.Ascending -/
def ann121 : Ann := ⟨[], [], [(6, [2]), (3, [3, 0]), (5, [2]), (4, [0, 3, 19]), (2, [0, 3, 7]), (1, [3, 0]), (0, [0])], [(2, [3, 0])]⟩
@[go_sem] theorem ann121_imm : ann121.imm = [] := rfl
@[go_sem] theorem ann121_frz : ann121.frz = [] := rfl
@[go_sem] theorem ann121_live : ann121.live = [(6, [2]), (3, [3, 0]), (5, [2]), (4, [0, 3, 19]), (2, [0, 3, 7]), (1, [3, 0]), (0, [0])] := rfl
@[go_sem] theorem ann121_head : ann121.head = [(2, [3, 0])] := rfl
/-- pilaster/pilasterref01.Number -/
def ann122 : Ann := ⟨[], [], [(12, [2, 3]), (11, [2, 3]), (10, [4, 40]), (6, [5, 0, 4]), (9, [0, 4, 5]), (8, [2, 3]), (7, [0, 5, 4, 29]), (5, [0, 5, 4, 22]), (4, [5, 0, 4]), (3, [0, 4]), (2, [2, 3]), (1, [0, 18]), (0, [0])], [(5, [5, 0, 4])]⟩
@[go_sem] theorem ann122_imm : ann122.imm = [] := rfl
@[go_sem] theorem ann122_frz : ann122.frz = [] := rfl
@[go_sem] theorem ann122_live : ann122.live = [(12, [2, 3]), (11, [2, 3]), (10, [4, 40]), (6, [5, 0, 4]), (9, [0, 4, 5]), (8, [2, 3]), (7, [0, 5, 4, 29]), (5, [0, 5, 4, 22]), (4, [5, 0, 4]), (3, [0, 4]), (2, [2, 3]), (1, [0, 18]), (0, [0])] := rfl
@[go_sem] theorem ann122_head : ann122.head = [(5, [5, 0, 4])] := rfl
/-- pilaster/pilasterref01.IsUpper -/
def ann123 : Ann := ⟨[], [], [(1, [2]), (0, [0])], []⟩
@[go_sem] theorem ann123_imm : ann123.imm = [] := rfl
@[go_sem] theorem ann123_frz : ann123.frz = [] := rfl
@[go_sem] theorem ann123_live : ann123.live = [(1, [2]), (0, [0])] := rfl
@[go_sem] theorem ann123_head : ann123.head = [] := rfl
/-- pilaster/pilasterref08.count -/
def ann124 : Ann := ⟨[3], [], [(8, [6]), (6, [7, 2, 1, 3]), (7, [2, 1, 3, 7]), (5, [2, 3, 7, 1, 36]), (4, [7, 2, 1, 3]), (3, [2, 1, 3]), (2, [6]), (1, [2, 3, 1, 25]), (0, [2, 3, 1])], [(5, [7, 2, 1, 3])]⟩
@[go_sem] theorem ann124_imm : ann124.imm = [3] := rfl
@[go_sem] theorem ann124_frz : ann124.frz = [] := rfl
@[go_sem] theorem ann124_live : ann124.live = [(8, [6]), (6, [7, 2, 1, 3]), (7, [2, 1, 3, 7]), (5, [2, 3, 7, 1, 36]), (4, [7, 2, 1, 3]), (3, [2, 1, 3]), (2, [6]), (1, [2, 3, 1, 25]), (0, [2, 3, 1])] := rfl
@[go_sem] theorem ann124_head : ann124.head = [(5, [7, 2, 1, 3])] := rfl
/-- internal/stringslite.Cut -/
def ann125 : Ann := ⟨[], [], [(4, [4, 5, 6]), (3, [4, 5, 6]), (2, [1, 7, 0, 12]), (1, [1, 7, 0]), (0, [1, 0])], []⟩
@[go_sem] theorem ann125_imm : ann125.imm = [] := rfl
@[go_sem] theorem ann125_frz : ann125.frz = [] := rfl
@[go_sem] theorem ann125_live : ann125.live = [(4, [4, 5, 6]), (3, [4, 5, 6]), (2, [1, 7, 0, 12]), (1, [1, 7, 0]), (0, [1, 0])] := rfl
@[go_sem] theorem ann125_head : ann125.head = [] := rfl
/-- strconv.Atoi -/
def ann126 : Ann := ⟨[], [], [(4, [2, 3]), (3, [2, 3]), (2, [5, 0, 4, 12]), (1, [5, 0, 4]), (0, [0])], []⟩
@[go_sem] theorem ann126_imm : ann126.imm = [] := rfl
@[go_sem] theorem ann126_frz : ann126.frz = [] := rfl
@[go_sem] theorem ann126_live : ann126.live = [(4, [2, 3]), (3, [2, 3]), (2, [5, 0, 4, 12]), (1, [5, 0, 4]), (0, [0])] := rfl
@[go_sem] theorem ann126_head : ann126.head = [] := rfl
/-- pilaster/ident.name -/
def ann127 : Ann := ⟨[], [], [(10, [4]), (9, [25, 23, 24]), (8, [4]), (7, [23, 24, 25, 36]), (6, [23, 24, 25, 7]), (5, [23, 24, 25, 6]), (4, [23, 24, 25, 26]), (3, [25, 23, 24]), (2, [4]), (1, [0, 21]), (0, [0, 1])], [(4, [25, 23, 24])]⟩
@[go_sem] theorem ann127_imm : ann127.imm = [] := rfl
@[go_sem] theorem ann127_frz : ann127.frz = [] := rfl
@[go_sem] theorem ann127_live : ann127.live = [(10, [4]), (9, [25, 23, 24]), (8, [4]), (7, [23, 24, 25, 36]), (6, [23, 24, 25, 7]), (5, [23, 24, 25, 6]), (4, [23, 24, 25, 26]), (3, [25, 23, 24]), (2, [4]), (1, [0, 21]), (0, [0, 1])] := rfl
@[go_sem] theorem ann127_head : ann127.head = [(4, [25, 23, 24])] := rfl
/-- internal/strconv.small -/
def ann128 : Ann := ⟨[], [], [(3, [2]), (2, [2]), (1, [0, 4]), (0, [0])], []⟩
@[go_sem] theorem ann128_imm : ann128.imm = [] := rfl
@[go_sem] theorem ann128_frz : ann128.frz = [] := rfl
@[go_sem] theorem ann128_live : ann128.live = [(3, [2]), (2, [2]), (1, [0, 4]), (0, [0])] := rfl
@[go_sem] theorem ann128_head : ann128.head = [] := rfl
/-- internal/strconv.numDigits -/
def ann129 : Ann := ⟨[], [], [(2, [2]), (1, [3, 0]), (0, [0])], []⟩
@[go_sem] theorem ann129_imm : ann129.imm = [] := rfl
@[go_sem] theorem ann129_frz : ann129.frz = [] := rfl
@[go_sem] theorem ann129_live : ann129.live = [(2, [2]), (1, [3, 0]), (0, [0])] := rfl
@[go_sem] theorem ann129_head : ann129.head = [] := rfl
/-- internal/strconv.formatBase10 -/
def ann130 : Ann := ⟨[], [], [(26, []), (25, [12, 0, 161]), (24, [12, 0, 4]), (23, [12, 0, 4]), (22, [12, 0, 4, 16]), (21, [0, 4, 16, 12]), (20, [0, 4, 12, 139]), (19, [0, 4, 12]), (18, [0, 12, 4]), (17, [0, 12, 4, 14]), (16, [0, 12, 4, 14, 15]), (15, [0, 12, 4, 13]), (14, [0, 4, 13, 12]), (13, [0, 4, 12, 99]), (12, [0, 4, 12]), (11, [4, 0, 1]), (10, [0, 1, 4]), (9, [0, 1, 4, 10]), (8, [0, 1, 4, 10, 11]), (7, [0, 1, 4, 10, 11, 8]), (6, [0, 1, 4, 10, 11, 8, 9]), (5, [0, 1, 4, 8, 9, 6]), (4, [0, 1, 4, 6, 7]), (3, [0, 1, 4, 5]), (2, [0, 4, 5, 1]), (1, [0, 4, 1, 20]), (0, [4, 0, 1])], [(1, [4, 0, 1])]⟩
@[go_sem] theorem ann130_imm : ann130.imm = [] := rfl
@[go_sem] theorem ann130_frz : ann130.frz = [] := rfl
@[go_sem] theorem ann130_live : ann130.live = [(26, []), (25, [12, 0, 161]), (24, [12, 0, 4]), (23, [12, 0, 4]), (22, [12, 0, 4, 16]), (21, [0, 4, 16, 12]), (20, [0, 4, 12, 139]), (19, [0, 4, 12]), (18, [0, 12, 4]), (17, [0, 12, 4, 14]), (16, [0, 12, 4, 14, 15]), (15, [0, 12, 4, 13]), (14, [0, 4, 13, 12]), (13, [0, 4, 12, 99]), (12, [0, 4, 12]), (11, [4, 0, 1]), (10, [0, 1, 4]), (9, [0, 1, 4, 10]), (8, [0, 1, 4, 10, 11]), (7, [0, 1, 4, 10, 11, 8]), (6, [0, 1, 4, 10, 11, 8, 9]), (5, [0, 1, 4, 8, 9, 6]), (4, [0, 1, 4, 6, 7]), (3, [0, 1, 4, 5]), (2, [0, 4, 5, 1]), (1, [0, 4, 1, 20]), (0, [4, 0, 1])] := rfl
@[go_sem] theorem ann130_head : ann130.head = [(1, [4, 0, 1])] := rfl
/-- internal/strconv.formatBits -/
def ann131 : Ann := ⟨[], [], [(30, [10, 11]), (29, [10, 11]), (28, [11, 12, 13, 0, 10, 94]), (27, [11, 12, 13, 0, 10, 4]), (26, [11, 12, 13, 0, 10, 4]), (25, [11, 12, 0, 10, 4, 13, 89]), (16, [11, 12, 0, 10, 4, 13, 3]), (15, [11, 12, 0, 10, 4, 13, 3, 1]), (14, [14, 1, 12, 16, 13, 11, 0, 10, 4, 3, 15]), (13, [14, 12, 16, 13, 11, 0, 10, 4, 3, 15, 1]), (12, [14, 12, 16, 13, 11, 0, 10, 4, 3, 15, 1]), (11, [14, 12, 16, 11, 0, 10, 4, 3, 15, 1, 13, 46]), (10, [14, 1, 12, 16, 13, 11, 0, 10, 4, 3, 15]), (9, [14, 1, 12, 13, 11, 0, 10, 4, 3, 15, 2]), (8, [14, 1, 12, 13, 11, 0, 10, 4, 3, 2]), (24, [11, 12, 0, 10, 4, 13, 3]), (23, [11, 12, 0, 10, 4, 13, 3, 1]), (22, [12, 17, 1, 13, 11, 0, 10, 4, 3]), (21, [12, 17, 13, 11, 0, 10, 4, 3, 18]), (20, [12, 17, 13, 11, 0, 10, 4, 3, 18, 1]), (19, [12, 17, 13, 11, 0, 10, 4, 3, 1]), (18, [12, 17, 11, 0, 10, 4, 3, 1, 13, 68]), (17, [12, 17, 1, 13, 11, 0, 10, 4, 3]), (7, [1, 12, 13, 11, 0, 10, 4, 3, 2, 34]), (6, [1, 12, 13, 11, 0, 10, 4, 3, 2]), (5, [12, 13, 11, 0, 10, 4, 3, 2, 1, 30]), (4, [12, 13, 11, 0, 10, 4, 3, 2, 1]), (3, [12, 11, 0, 10, 4, 3, 2, 1]), (2, [11, 0, 10, 4, 3, 2, 1]), (1, [11, 0, 10, 4, 3, 2, 1, 28]), (0, [11, 0, 10, 4, 3, 2, 1])], [(11, [14, 1, 12, 16, 13, 11, 0, 10, 4, 3, 15]), (18, [12, 17, 1, 13, 11, 0, 10, 4, 3])]⟩
@[go_sem] theorem ann131_imm : ann131.imm = [] := rfl
@[go_sem] theorem ann131_frz : ann131.frz = [] := rfl
@[go_sem] theorem ann131_live : ann131.live = [(30, [10, 11]), (29, [10, 11]), (28, [11, 12, 13, 0, 10, 94]), (27, [11, 12, 13, 0, 10, 4]), (26, [11, 12, 13, 0, 10, 4]), (25, [11, 12, 0, 10, 4, 13, 89]), (16, [11, 12, 0, 10, 4, 13, 3]), (15, [11, 12, 0, 10, 4, 13, 3, 1]), (14, [14, 1, 12, 16, 13, 11, 0, 10, 4, 3, 15]), (13, [14, 12, 16, 13, 11, 0, 10, 4, 3, 15, 1]), (12, [14, 12, 16, 13, 11, 0, 10, 4, 3, 15, 1]), (11, [14, 12, 16, 11, 0, 10, 4, 3, 15, 1, 13, 46]), (10, [14, 1, 12, 16, 13, 11, 0, 10, 4, 3, 15]), (9, [14, 1, 12, 13, 11, 0, 10, 4, 3, 15, 2]), (8, [14, 1, 12, 13, 11, 0, 10, 4, 3, 2]), (24, [11, 12, 0, 10, 4, 13, 3]), (23, [11, 12, 0, 10, 4, 13, 3, 1]), (22, [12, 17, 1, 13, 11, 0, 10, 4, 3]), (21, [12, 17, 13, 11, 0, 10, 4, 3, 18]), (20, [12, 17, 13, 11, 0, 10, 4, 3, 18, 1]), (19, [12, 17, 13, 11, 0, 10, 4, 3, 1]), (18, [12, 17, 11, 0, 10, 4, 3, 1, 13, 68]), (17, [12, 17, 1, 13, 11, 0, 10, 4, 3]), (7, [1, 12, 13, 11, 0, 10, 4, 3, 2, 34]), (6, [1, 12, 13, 11, 0, 10, 4, 3, 2]), (5, [12, 13, 11, 0, 10, 4, 3, 2, 1, 30]), (4, [12, 13, 11, 0, 10, 4, 3, 2, 1]), (3, [12, 11, 0, 10, 4, 3, 2, 1]), (2, [11, 0, 10, 4, 3, 2, 1]), (1, [11, 0, 10, 4, 3, 2, 1, 28]), (0, [11, 0, 10, 4, 3, 2, 1])] := rfl
@[go_sem] theorem ann131_head : ann131.head = [(11, [14, 1, 12, 16, 13, 11, 0, 10, 4, 3, 15]), (18, [12, 17, 1, 13, 11, 0, 10, 4, 3])] := rfl
/-- slices.siftDownOrdered[int] -/
def ann132 : Ann := ⟨[], [], [(7, [8, 3, 0, 2]), (6, [3, 0, 2, 9]), (5, [3, 0, 2, 9, 8, 52]), (4, [3, 0, 2, 9, 8]), (3, [3, 0, 2, 8, 9, 36]), (2, [3, 0, 2, 8, 9, 16]), (1, [3, 0, 2, 8, 9]), (0, [8, 3, 0, 2])], [(1, [8, 3, 0, 2])]⟩
@[go_sem] theorem ann132_imm : ann132.imm = [] := rfl
@[go_sem] theorem ann132_frz : ann132.frz = [] := rfl
@[go_sem] theorem ann132_live : ann132.live = [(7, [8, 3, 0, 2]), (6, [3, 0, 2, 9]), (5, [3, 0, 2, 9, 8, 52]), (4, [3, 0, 2, 9, 8]), (3, [3, 0, 2, 8, 9, 36]), (2, [3, 0, 2, 8, 9, 16]), (1, [3, 0, 2, 8, 9]), (0, [8, 3, 0, 2])] := rfl
@[go_sem] theorem ann132_head : ann132.head = [(1, [8, 3, 0, 2])] := rfl
/-- slices.nextPowerOfTwo -/
def ann133 : Ann := ⟨[], [], [(1, [2]), (0, [0])], []⟩
@[go_sem] theorem ann133_imm : ann133.imm = [] := rfl
@[go_sem] theorem ann133_frz : ann133.frz = [] := rfl
@[go_sem] theorem ann133_live : ann133.live = [(1, [2]), (0, [0])] := rfl
@[go_sem] theorem ann133_head : ann133.head = [] := rfl
/-- (*slices.xorshift).Next -/
def ann134 : Ann := ⟨[], [], [(4, [2]), (3, [0]), (2, [0]), (1, [0]), (0, [0])], []⟩
@[go_sem] theorem ann134_imm : ann134.imm = [] := rfl
@[go_sem] theorem ann134_frz : ann134.frz = [] := rfl
@[go_sem] theorem ann134_live : ann134.live = [(4, [2]), (3, [0]), (2, [0]), (1, [0]), (0, [0])] := rfl
@[go_sem] theorem ann134_head : ann134.head = [] := rfl
/-- slices.medianAdjacentOrdered[int] -/
def ann135 : Ann := ⟨[], [], [(1, [6]), (0, [2, 1, 0])], []⟩
@[go_sem] theorem ann135_imm : ann135.imm = [] := rfl
@[go_sem] theorem ann135_frz : ann135.frz = [] := rfl
@[go_sem] theorem ann135_live : ann135.live = [(1, [6]), (0, [2, 1, 0])] := rfl
@[go_sem] theorem ann135_head : ann135.head = [] := rfl
/-- slices.medianOrdered[int] -/
def ann136 : Ann := ⟨[], [], [(4, [10]), (3, [2]), (2, [4, 2, 1, 0]), (1, [4, 1, 0, 3, 2]), (0, [4, 0, 3, 2, 1])], []⟩
@[go_sem] theorem ann136_imm : ann136.imm = [] := rfl
@[go_sem] theorem ann136_frz : ann136.frz = [] := rfl
@[go_sem] theorem ann136_live : ann136.live = [(4, [10]), (3, [2]), (2, [4, 2, 1, 0]), (1, [4, 1, 0, 3, 2]), (0, [4, 0, 3, 2, 1])] := rfl
@[go_sem] theorem ann136_head : ann136.head = [] := rfl
/-- cmp.isNaN[int] -/
def ann137 : Ann := ⟨[], [], [(1, [2]), (0, [0])], []⟩
@[go_sem] theorem ann137_imm : ann137.imm = [] := rfl
@[go_sem] theorem ann137_frz : ann137.frz = [] := rfl
@[go_sem] theorem ann137_live : ann137.live = [(1, [2]), (0, [0])] := rfl
@[go_sem] theorem ann137_head : ann137.head = [] := rfl
/-- pilaster/pilasterref01.Inner -/
def ann138 : Ann := ⟨[], [], [(1, [2]), (0, [0])], []⟩
@[go_sem] theorem ann138_imm : ann138.imm = [] := rfl
@[go_sem] theorem ann138_frz : ann138.frz = [] := rfl
@[go_sem] theorem ann138_live : ann138.live = [(1, [2]), (0, [0])] := rfl
@[go_sem] theorem ann138_head : ann138.head = [] := rfl
/-- pilaster/pilasterref01.Digit -/
def ann139 : Ann := ⟨[], [], [(1, [2]), (0, [0])], []⟩
@[go_sem] theorem ann139_imm : ann139.imm = [] := rfl
@[go_sem] theorem ann139_frz : ann139.frz = [] := rfl
@[go_sem] theorem ann139_live : ann139.live = [(1, [2]), (0, [0])] := rfl
@[go_sem] theorem ann139_head : ann139.head = [] := rfl
/-- pilaster/pilasterref01.Word -/
def ann140 : Ann := ⟨[], [], [(1, [2]), (0, [0])], []⟩
@[go_sem] theorem ann140_imm : ann140.imm = [] := rfl
@[go_sem] theorem ann140_frz : ann140.frz = [] := rfl
@[go_sem] theorem ann140_live : ann140.live = [(1, [2]), (0, [0])] := rfl
@[go_sem] theorem ann140_head : ann140.head = [] := rfl
/-- pilaster/pilasterref01.Capital -/
def ann141 : Ann := ⟨[], [], [(1, [2]), (0, [0])], []⟩
@[go_sem] theorem ann141_imm : ann141.imm = [] := rfl
@[go_sem] theorem ann141_frz : ann141.frz = [] := rfl
@[go_sem] theorem ann141_live : ann141.live = [(1, [2]), (0, [0])] := rfl
@[go_sem] theorem ann141_head : ann141.head = [] := rfl
/-- internal/stringslite.Index -/
def ann142 : Ann := ⟨[], [], [(35, [4]), (29, [4]), (28, [4]), (27, [8, 12, 114]), (26, [8, 12]), (34, [4]), (33, [4]), (32, [13, 8, 139]), (31, [13, 8]), (30, [8, 1, 0, 9, 5, 10, 7, 6, 132]), (25, [8, 1, 0, 9, 5, 10, 7, 6, 107]), (24, [8, 1, 0, 9, 5, 10, 7, 6]), (23, [8, 1, 0, 9, 5, 7, 6, 10]), (22, [4]), (21, [8, 1, 0, 9, 5, 7, 6, 10, 93]), (20, [8, 1, 0, 9, 5, 7, 6, 10]), (19, [4]), (18, [1, 0, 9, 5, 7, 6, 10, 11, 8, 73]), (17, [1, 0, 9, 5, 7, 6, 10, 11, 8]), (16, [1, 0, 9, 5, 7, 6, 10, 8, 64]), (15, [1, 0, 9, 5, 7, 6, 10, 8, 59]), (14, [1, 0, 9, 5, 10, 7, 8, 6]), (13, [1, 0, 9, 5, 7, 8, 6]), (12, [1, 0, 5, 7, 8, 6]), (11, [1, 0, 5, 7, 6]), (10, [1, 0, 5, 6]), (3, [4]), (5, [4]), (7, [4]), (9, [4]), (8, [1, 0, 5, 36]), (6, [1, 0, 5, 31]), (4, [1, 0, 5, 24]), (2, [1, 0, 5, 16]), (1, [1, 0, 5]), (0, [1, 0])], [(15, [1, 0, 9, 5, 10, 7, 8, 6])]⟩
@[go_sem] theorem ann142_imm : ann142.imm = [] := rfl
@[go_sem] theorem ann142_frz : ann142.frz = [] := rfl
@[go_sem] theorem ann142_live : ann142.live = [(35, [4]), (29, [4]), (28, [4]), (27, [8, 12, 114]), (26, [8, 12]), (34, [4]), (33, [4]), (32, [13, 8, 139]), (31, [13, 8]), (30, [8, 1, 0, 9, 5, 10, 7, 6, 132]), (25, [8, 1, 0, 9, 5, 10, 7, 6, 107]), (24, [8, 1, 0, 9, 5, 10, 7, 6]), (23, [8, 1, 0, 9, 5, 7, 6, 10]), (22, [4]), (21, [8, 1, 0, 9, 5, 7, 6, 10, 93]), (20, [8, 1, 0, 9, 5, 7, 6, 10]), (19, [4]), (18, [1, 0, 9, 5, 7, 6, 10, 11, 8, 73]), (17, [1, 0, 9, 5, 7, 6, 10, 11, 8]), (16, [1, 0, 9, 5, 7, 6, 10, 8, 64]), (15, [1, 0, 9, 5, 7, 6, 10, 8, 59]), (14, [1, 0, 9, 5, 10, 7, 8, 6]), (13, [1, 0, 9, 5, 7, 8, 6]), (12, [1, 0, 5, 7, 8, 6]), (11, [1, 0, 5, 7, 6]), (10, [1, 0, 5, 6]), (3, [4]), (5, [4]), (7, [4]), (9, [4]), (8, [1, 0, 5, 36]), (6, [1, 0, 5, 31]), (4, [1, 0, 5, 24]), (2, [1, 0, 5, 16]), (1, [1, 0, 5]), (0, [1, 0])] := rfl
@[go_sem] theorem ann142_head : ann142.head = [(15, [1, 0, 9, 5, 10, 7, 8, 6])] := rfl
/-- internal/strconv.Atoi -/
def ann143 : Ann := ⟨[], [], [(21, [2, 3]), (20, [10, 9]), (19, [2, 3]), (18, [6]), (17, [6, 66]), (16, [49, 6, 47, 5, 48]), (15, [6, 47, 5, 48, 49]), (14, [2, 3]), (13, [47, 5, 48, 49, 8, 6, 56]), (12, [47, 5, 48, 49, 8, 6]), (11, [47, 5, 48, 49, 6, 8]), (10, [47, 5, 48, 49, 6, 50]), (9, [49, 6, 47, 5, 48]), (8, [6, 5, 0]), (7, [2, 3]), (6, [5, 0, 44]), (5, [5, 0]), (4, [5, 0, 39]), (3, [5, 0]), (2, [0, 30]), (1, [0, 4]), (0, [0])], [(10, [49, 6, 47, 5, 48])]⟩
@[go_sem] theorem ann143_imm : ann143.imm = [] := rfl
@[go_sem] theorem ann143_frz : ann143.frz = [] := rfl
@[go_sem] theorem ann143_live : ann143.live = [(21, [2, 3]), (20, [10, 9]), (19, [2, 3]), (18, [6]), (17, [6, 66]), (16, [49, 6, 47, 5, 48]), (15, [6, 47, 5, 48, 49]), (14, [2, 3]), (13, [47, 5, 48, 49, 8, 6, 56]), (12, [47, 5, 48, 49, 8, 6]), (11, [47, 5, 48, 49, 6, 8]), (10, [47, 5, 48, 49, 6, 50]), (9, [49, 6, 47, 5, 48]), (8, [6, 5, 0]), (7, [2, 3]), (6, [5, 0, 44]), (5, [5, 0]), (4, [5, 0, 39]), (3, [5, 0]), (2, [0, 30]), (1, [0, 4]), (0, [0])] := rfl
@[go_sem] theorem ann143_head : ann143.head = [(10, [49, 6, 47, 5, 48])] := rfl
/-- strconv.toError -/
def ann144 : Ann := ⟨[], [], [(10, [10]), (3, [10]), (5, [10]), (7, [10]), (9, [10]), (8, [3, 1, 0, 4, 34]), (6, [2, 1, 0, 3, 4, 11, 26]), (4, [1, 0, 2, 3, 4, 11, 19]), (2, [1, 0, 2, 3, 4, 11, 12]), (1, [1, 0, 2, 3, 4, 11]), (0, [1, 0, 2, 3, 4])], []⟩
@[go_sem] theorem ann144_imm : ann144.imm = [] := rfl
@[go_sem] theorem ann144_frz : ann144.frz = [] := rfl
@[go_sem] theorem ann144_live : ann144.live = [(10, [10]), (3, [10]), (5, [10]), (7, [10]), (9, [10]), (8, [3, 1, 0, 4, 34]), (6, [2, 1, 0, 3, 4, 11, 26]), (4, [1, 0, 2, 3, 4, 11, 19]), (2, [1, 0, 2, 3, 4, 11, 12]), (1, [1, 0, 2, 3, 4, 11]), (0, [1, 0, 2, 3, 4])] := rfl
@[go_sem] theorem ann144_head : ann144.head = [] := rfl
/-- internal/strconv.log10Pow2 -/
def ann145 : Ann := ⟨[], [], [(1, [2]), (0, [0])], []⟩
@[go_sem] theorem ann145_imm : ann145.imm = [] := rfl
@[go_sem] theorem ann145_frz : ann145.frz = [] := rfl
@[go_sem] theorem ann145_live : ann145.live = [(1, [2]), (0, [0])] := rfl
@[go_sem] theorem ann145_head : ann145.head = [] := rfl
/-- internal/strconv.bool2[int] -/
def ann146 : Ann := ⟨[], [], [(3, [2]), (2, [2]), (1, [3]), (0, [0])], []⟩
@[go_sem] theorem ann146_imm : ann146.imm = [] := rfl
@[go_sem] theorem ann146_frz : ann146.frz = [] := rfl
@[go_sem] theorem ann146_live : ann146.live = [(3, [2]), (2, [2]), (1, [3]), (0, [0])] := rfl
@[go_sem] theorem ann146_head : ann146.head = [] := rfl
/-- internal/strconv.isPowerOfTwo -/
def ann147 : Ann := ⟨[], [], [(1, [2]), (0, [0])], []⟩
@[go_sem] theorem ann147_imm : ann147.imm = [] := rfl
@[go_sem] theorem ann147_frz : ann147.frz = [] := rfl
@[go_sem] theorem ann147_live : ann147.live = [(1, [2]), (0, [0])] := rfl
@[go_sem] theorem ann147_head : ann147.head = [] := rfl
/-- math/bits.TrailingZeros -/
def ann148 : Ann := ⟨[], [], [(2, [2]), (1, [2]), (0, [0])], []⟩
@[go_sem] theorem ann148_imm : ann148.imm = [] := rfl
@[go_sem] theorem ann148_frz : ann148.frz = [] := rfl
@[go_sem] theorem ann148_live : ann148.live = [(2, [2]), (1, [2]), (0, [0])] := rfl
@[go_sem] theorem ann148_head : ann148.head = [] := rfl
/-- slices.order2Ordered[int] -/
def ann149 : Ann := ⟨[], [], [(4, [8, 9]), (3, [8, 9]), (2, [1, 2]), (1, [1, 2, 3, 18]), (0, [1, 2, 3, 0])], []⟩
@[go_sem] theorem ann149_imm : ann149.imm = [] := rfl
@[go_sem] theorem ann149_frz : ann149.frz = [] := rfl
@[go_sem] theorem ann149_live : ann149.live = [(4, [8, 9]), (3, [8, 9]), (2, [1, 2]), (1, [1, 2, 3, 18]), (0, [1, 2, 3, 0])] := rfl
@[go_sem] theorem ann149_head : ann149.head = [] := rfl
end Go.Abs.Kon
