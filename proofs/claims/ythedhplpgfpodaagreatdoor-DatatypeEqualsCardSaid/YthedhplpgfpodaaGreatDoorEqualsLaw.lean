/- The law DatatypeEquals, whatever comes in. -/
import Derived.Test.YthedhplpgfpodaaGreatDoorDataH
import Derived.Test.YthedhplpgfpodaaGreatDoorOrdA
set_option linter.unusedSimpArgs false
set_option linter.unusedVariables false
namespace Go.Abs.Kon
open Go Go.Proofs Go.Abs
set_option maxRecDepth 100000
set_option maxHeartbeats 4000000
theorem DatatypeEquals_all (a b : ConT) : Spec Tryz.prog 3 [pp (encC a), pp (encC b)] [] (.bool true) [] := by
  cases hf : fitsT [a, b] with
  | true =>
    obtain ⟨h1, h2⟩ := fits_ok _ hf
    have ha := h1 a (by simp)
    have hb := h1 b (by simp)
    have sa := sizeF_mem (c := a) (l := [a, b]) (by simp)
    have sb := sizeF_mem (c := b) (l := [a, b]) (by simp)
    exact DatatypeEquals_of a b (by omega) ha.1 (by omega) hb.1 awake19_spec
  | false =>
    have hA := awake19_spec
    have hF := fits_spec [a, b]
    rw [hf] at hF
    simp only [List.map_cons, List.map_nil] at hF
    refine wk (rv := [.tmp 4]) ann3 59 Tryz.func3 ?_
    simp only [go_sem, encC_sz]
    refine aCall_intro hA ?_
    simp only [go_sem, encC_sz]
    refine aCall_intro hF ?_
    simp only [go_sem, encC_sz]
end Go.Abs.Kon
