/- Contracts of functions: units, truths. -/
import Derived.Test.YthedhplpgfpodaaGreatDoorKonH
set_option linter.unusedSimpArgs false
namespace Go.Abs.Kon
open Go Go.Proofs Go.Abs
set_option maxRecDepth 100000
set_option maxHeartbeats 4000000

def unitC : ConT := .mk 7 0 ByteArray.empty [] [] []
def strF : ByteArray := ⟨#[70, 97, 108, 115, 101]⟩
def strT : ByteArray := ⟨#[84, 114, 117, 101]⟩
def boolC : ConT := .mk 13 0 ByteArray.empty [] [] [.mk 8 0 ByteArray.empty [] [strF, strT] [unitC, unitC]]
theorem Unit_spec : Spec Tryz.prog 61 [] [] (encC unitC) [] := by
  refine wk (rv := [.cell 0 28]) ann61 2 Tryz.func61 ?_
  simp only [go_sem, unitC, encC_mk]
theorem Bool_spec : Spec Tryz.prog 42 [] [] (encC boolC) [] := by
  have hU := Unit_spec
  refine wk (rv := [.cell 0 28]) ann42 10 Tryz.func42 ?_
  simp only [go_sem, encC_sz]
  refine aCall_intro hU ?_
  simp only [go_sem, encC_sz]
  refine aCall_intro hU ?_
  simp only [go_sem, encC_sz, boolC, encC_mk, strF, strT]
end Go.Abs.Kon
