/- The reference's shifting and substituting; maps of leaves. -/
import Derived.Test.YthedhplpgfpodaaGreatDoorKonG
set_option linter.unusedSimpArgs false
namespace Go.Abs.Kon
open Go Go.Proofs Go.Abs
set_option maxRecDepth 100000
set_option maxHeartbeats 4000000

def deepF (op depth : Int) : Int := if isBinder op then depth + 1 else depth
theorem deep_spec (op n : Int) (s : ByteArray) (k : List KindT) (names : List ByteArray) (l : List ConT) (depth : Int) (h1 : 0 ≤ depth) (h2 : depth ≤ 2000000000) :
    Spec Tryz.prog 308 [pp (rawC op n s k names l), ii depth] [] (.int .i64 (deepF op depth)) [] := by
  have hB := rBinder_spec op
  have w1 : IntKind.i64.wrap (depth + 1) = depth + 1 := wrap_id (by omega) (by omega)
  rw [deepF]
  refine wk (rv := [.tmp 4]) ann308 11 Tryz.func308 ?_
  simp only [go_sem]
  refine aCall_intro hB ?_
  simp only [go_sem]
  refine condK_intro (fun hb => ?_) (fun hb => ?_)
  · simp only [go_sem, hb, w1]
  · simp only [go_sem, hb]


/-! Parts of the laws -/



/-! Leaves that are mapped again -/

/-! Substitutions commute -/

/-! Small constructors -/

end Go.Abs.Kon
