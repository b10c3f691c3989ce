/- Contracts of functions: units, truths, numerals. -/
import Derived.Test.YthedhplpgfpodaaGreatDoorKonH
import Derived.Test.YthedhplpgfpodaaGreatDoorShelfA
set_option linter.unusedSimpArgs false
namespace Go.Abs.Kon
open Go Go.Proofs Go.Abs
set_option maxRecDepth 100000
set_option maxHeartbeats 4000000
def unitC : ConT := .mk 7 0 ByteArray.empty [] [] []
def strF : ByteArray := ⟨#[70, 97, 108, 115, 101]⟩
def strT : ByteArray := ⟨#[84, 114, 117, 101]⟩
def boolC : ConT := .mk 13 0 ByteArray.empty [] [] [.mk 8 0 ByteArray.empty [] [strF, strT] [unitC, unitC]]
theorem Unit_spec : Spec Tryz.prog 61 [] [] (encC unitC) [] := by
 refine wk (rv := [.cell 0 28]) ann61 2 Tryz.func61 ?_
 simp only [go_sem, unitC, eCm]
theorem rUnit_spec : Spec Tryz.prog 296 [] [] (encC unitC) [] := by
 refine wk (rv := [.cell 0 28]) ann296 2 Tryz.func296 ?_
 simp only [go_sem, unitC, eCm]
theorem Bool_spec : Spec Tryz.prog 42 [] [] (encC boolC) [] := by
 have hU := Unit_spec
 refine wk (rv := [.cell 0 28]) ann42 10 Tryz.func42 ?_
 simp only [go_sem, eCz]
 refine aC hU ?_
 simp only [go_sem, eCz]
 refine aC hU ?_
 simp only [go_sem, eCz, boolC, eCm, strF, strT]
theorem rBool_spec : Spec Tryz.prog 271 [] [] (encC boolC) [] := by
 have hU := rUnit_spec
 refine wk (rv := [.cell 0 28]) ann271 8 Tryz.func271 ?_
 simp only [go_sem, eCz]
 refine aC hU ?_
 simp only [go_sem, eCz]
 refine aC hU ?_
 simp only [go_sem, eCz, boolC, eCm, strF, strT]
def decF (n : Nat) : ByteArray := ByteArray.empty.push (UInt8.ofNat (48 + n))
theorem Decimal_spec (n : Nat) (h : n ≤ 9) : Spec Tryz.prog 272 [ii n] [] (.str (decF n)) [] := by
 have d1 : decide ((n : Int) < 0) = false := decide_eq_false (by omega)
 have d2 : decide ((n : Int) < 10) = true := decide_eq_true (by omega)
 have w1 : IntKind.i64.wrap (48 + (n : Int)) = 48 + n := wId (by omega) (by omega)
 have w2 : IntKind.u8.wrap (48 + (n : Int)) = 48 + n := by
  rcases (show n = 0 ∨ n = 1 ∨ n = 2 ∨ n = 3 ∨ n = 4 ∨ n = 5 ∨ n = 6 ∨ n = 7 ∨ n = 8 ∨ n = 9 by omega) with rfl | rfl | rfl | rfl | rfl | rfl | rfl | rfl | rfl | rfl <;> rfl
 have w3 : (48 + (n : Int)).toNat = 48 + n := by omega
 refine wk (rv := [.tmp 2]) ann272 26 Tryz.func272 ?_
 simp only [go_sem, d1, d2, w1, w2, w3, List.isEmpty_cons, List.foldl_cons, List.foldl_nil, decF]
end Go.Abs.Kon
