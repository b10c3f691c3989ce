/- Terms. -/
import Derived.Test.YtjfegcnjmpedhaaGreatDoorTermA
import Derived.Test.YtjfegcnjmpedhaaGreatDoorKonH
import Derived.Test.YtjfegcnjmpedhaaGreatDoorAbsC
import Derived.Test.YtjfegcnjmpedhaaGreatDoorShelfA
set_option linter.unusedSimpArgs false
set_option linter.unusedVariables false
namespace Go.Abs.Kon
open Go Go.Proofs Go.Abs
set_option maxRecDepth 100000
set_option maxHeartbeats 4000000
/-! The reference -/
end Go.Abs.Kon
namespace Go.Abs.Kon
open Go Go.Proofs Go.Abs
set_option maxRecDepth 100000
set_option maxHeartbeats 4000000
end Go.Abs.Kon
namespace Go.Abs.Kon
open Go Go.Proofs Go.Abs
open Go.Sort (putCells putRow grow)
set_option maxRecDepth 100000
set_option maxHeartbeats 4000000
/-! Nothing to sort -/
theorem Len64_0 : Spec Tryz.prog 134 [pp (.int .u64 0)] [] (.int .i64 (Lib.bitLen 0)) [] := by
  refine Spec.of_below (by kernel_rfl) fun G w vs hW hr => ?_
  simp only [RepSVs, pp, RepSV, RepSC, Rep] at hr
  obtain ⟨v, rest, h1, rfl, h3⟩ := hr
  subst h3
  obtain rfl := Array.toList_inj.1 (show vs.toList = (#[Value.int .u64 0] : Array Value).toList from h1)
  refine (Tryz.bits_Len64 0 w (by decide) (by decide)).mono ?_
  rintro e w' ⟨rfl, rfl⟩
  exact ⟨_, rfl, rfl, RowKit.Below.refl _ _⟩
theorem Len_0 : Spec Tryz.prog 98 [pp (.int .u64 0)] [] (.int .i64 (Lib.bitLen 0)) [] := by
  have hI := Len64_0
  refine wk (rv := [.tmp 2]) ann98 8 Tryz.func98 ?_
  simp only [go_sem]
  refine aCall_intro hI ?_
  simp only [go_sem]
/-! Free variables are collected -/
def annFree1 : Ann := ⟨[3], [1000020], [(2, []), (1, [2, 1, 3, 13]), (0, [2, 1, 3])], []⟩
@[go_sem] theorem annFree1_imm : annFree1.imm = [3] := rfl
@[go_sem] theorem annFree1_frz : annFree1.frz = [1000020] := rfl
@[go_sem] theorem annFree1_live : annFree1.live = [(2, []), (1, [2, 1, 3, 13]), (0, [2, 1, 3])] := rfl
@[go_sem] theorem annFree1_head : annFree1.head = [] := rfl
/-! tycon.Free -/
def annFree : Ann := ⟨[1], [2000005, 2000006], [(6, [2, 3]), (5, [4]), (4, [4]), (3, [4, 1]), (2, [2, 3]), (1, [1, 7]), (0, [1])], []⟩
@[go_sem] theorem annFree_imm : annFree.imm = [1] := rfl
@[go_sem] theorem annFree_frz : annFree.frz = [2000005, 2000006] := rfl
@[go_sem] theorem annFree_live : annFree.live = [(6, [2, 3]), (5, [4]), (4, [4]), (3, [4, 1]), (2, [2, 3]), (1, [1, 7]), (0, [1])] := rfl
@[go_sem] theorem annFree_head : annFree.head = [] := rfl
end Go.Abs.Kon
