/- Contracts of functions: units, truths, applications. -/
import Derived.Test.YtjfegcnjmpedhaaGreatDoorKonH
import Derived.Test.YtjfegcnjmpedhaaGreatDoorShelfA
set_option linter.unusedSimpArgs false
set_option linter.unusedVariables false
namespace Go.Abs.Kon
open Go Go.Proofs Go.Abs
set_option maxRecDepth 100000
set_option maxHeartbeats 4000000

theorem copied1_spec (c : ConT) (b : Int) (h : knL c.k ≤ 900000000) : Spec Tryz.prog 116 [pp (encC c), ii b] [] (encC (leafC c)) [] := by
  have hL := leafOf_spec c h
  refine wk (rv := [.cell 4 28]) ann116 7 Tryz.func116 ?_
  simp only [go_sem, encC_sz]
  refine aCall_intro hL ?_
  simp only [go_sem, encC_sz]
def ann81' : Ann := ⟨[1], [], [(2, [2]), (1, [2, 1, 3]), (0, [2, 1])], []⟩
@[go_sem] theorem ann81'_imm : ann81'.imm = [1] := rfl
@[go_sem] theorem ann81'_frz : ann81'.frz = [] := rfl
@[go_sem] theorem ann81'_live : ann81'.live = [(2, [2]), (1, [2, 1, 3]), (0, [2, 1])] := rfl
@[go_sem] theorem ann81'_head : ann81'.head = [] := rfl
theorem copied_spec (c : ConT) (h1 : wtF c ≤ 10000000) (h2 : validF c = true) : Spec Tryz.prog 81 [pp (encC c)] [] (encC c) [] := by
  have hsc := sizeF_wt c
  have hd := depthF_le c
  have hf := validF_formed h2
  have hR := rebuild_spec 116 [] (fun x _ => leafC x) c 0 20000 (by decide) (by omega) (by decide) (by decide) (by omega) fun x b hx => ⟨by rw [size_leafC]; decide, copied1_spec x b (by have := knL_wt x; have := (leaves_mem c 0 x b hx).1; omega)⟩
  have hm : mapF (fun x _ => leafC x) c 0 = c := map_id (fun x b hx hfx => leafC_formed hx hfx) c 0 hf
  have hs : (sizeF c : Int) ≤ 20000 := by
    rw [validF] at h2
    simp only [Bool.and_eq_true, decide_eq_true_eq] at h2
    omega
  have hr := (rebF_map (fun x _ => leafC x) c 0 20000 (by decide)).1 (by rw [hm]; exact hs)
  rw [hr, hm] at hR
  simp only [leafBox] at hR
  refine Spec.walk (rv := [.cell 2 28]) ann81' 9 Tryz.func81 mixed rfl rfl (by kernel_rfl) rfl rfl fun hfit => ?_
  clear hfit
  simp only [go_sem, encC_sz]
  refine aCall_intro hR ?_
  simp only [go_sem, encC_sz]

def appCur (f : ConT) : Option (ConT × ConT) → ConT
  | none => f
  | some (g, x) => appC g x
end Go.Abs.Kon
