/- The walk of the law TermBuilds. -/
import Derived.Test.YtkpmnpjodiomnaaGreatDoorTermG
import Derived.Test.YtkpmnpjodiomnaaGreatDoorTermH
set_option linter.unusedSimpArgs false
set_option linter.unusedVariables false
namespace Go.Abs.Kon
open Go Go.Proofs Go.Abs
set_option maxRecDepth 100000
set_option maxHeartbeats 4000000

def bigCF (c : ConT) : Bool := bigT (.mk 0 0 ByteArray.empty c zeroC [] [] [])
theorem tb1_spec (c : ConT) : Spec Tryz.prog 29 [pp (encC c)] [] (.bool (bigCF c)) [] := by
  have hB := big_spec (.mk 0 0 ByteArray.empty c zeroC [] [] [])
  rw [bigCF]
  generalize bigT (.mk 0 0 ByteArray.empty c zeroC [] [] []) = b at hB
  simp only [encT_mk, zeroC, ConT.op, ConT.n, ConT.s, ConT.k, ConT.names, ConT.l, List.map_nil] at hB
  rw [encC_cells, ConT.cells]
  refine Spec.walk (rv := [.tmp 2]) ann29 6 Tryz.func29 mixed rfl rfl (by kernel_rfl) rfl rfl fun hfit => ?_
  clear hfit
  simp only [go_sem]
  refine aCall_intro hB ?_
  simp only [go_sem]

theorem lams_is {l : List ConT} {t : TermT} : (validT t = false ∨ l.all validF = false → LamsT l t = (zeroT, 1)) ∧ (validT t = true → l.all validF = true → l.length > 1000 → LamsT l t = (zeroT, 5)) ∧ (validT t = true → l.all validF = true → l.length ≤ 1000 → LamsT l t = keptT (lamsT l t)) := by
  refine ⟨fun h => by rw [LamsT, if_pos h], fun h1 h2 h3 => ?_, fun h1 h2 h3 => ?_⟩
  · rw [LamsT, if_neg (by rw [h1, h2]; rintro (e | e) <;> cases e), if_pos h3]
  · rw [LamsT, if_neg (by rw [h1, h2]; rintro (e | e) <;> cases e), if_neg (by omega), fin_kept0]
theorem apps_is {l : List TermT} {t : TermT} : (validT t = false ∨ l.all validT = false → AppsT t l = (zeroT, 1)) ∧ (validT t = true → l.all validT = true → l.length > 1000 → AppsT t l = (zeroT, 5)) ∧ (validT t = true → l.all validT = true → l.length ≤ 1000 → AppsT t l = keptT (appsT t l)) := by
  refine ⟨fun h => by rw [AppsT, if_pos h], fun h1 h2 h3 => ?_, fun h1 h2 h3 => ?_⟩
  · rw [AppsT, if_neg (by rw [h1, h2]; rintro (e | e) <;> cases e), if_pos h3]
  · rw [AppsT, if_neg (by rw [h1, h2]; rintro (e | e) <;> cases e), if_neg (by omega), fin_kept0]
theorem is_self (x : TermT) (e : Int) : Spec Tryz.prog 17 [pp (encT x), ii e, pp (encT x), ii e] [] (.bool true) [] := by
  have h := is_spec x x e e
  rw [beq_self_eq_true, sameT_refl] at h
  exact h

theorem TermBuilds_spec (t : TermT) (l : List ConT) (m : List TermT) (hok : okT t) (hwc : wcT t) (hl : ∀ c ∈ l, wtF c ≤ 10000000 ∧ okS c) (hm : ∀ x ∈ m, okT x ∧ wcT x) (hln : l.length ≤ 100000000) (hmn : m.length ≤ 100000000) :
    Spec Tryz.prog 5 [pp (encT t), pp (.slice (l.map encC)), pp (.slice (m.map encT))] [] (.bool true) [] := by
  have hAw := tawake_spec
  have hBig := big_spec t
  have hoc : ∀ c ∈ l, okCon c := fun c hc => ⟨by have := sizeF_wt c; have := (hl c hc).1; omega, (hl c hc).2⟩
  have hC : Spec Tryz.prog 28 [pp (.slice (l.map encC)), pp (.fn 29 [])] [] (.bool (l.any bigCF)) [] :=
    ContainsFuncC encC l 29 [] _ (fun e _ => encC_sz e) fun x _ => tb1_spec x
  have hT : Spec Tryz.prog 30 [pp (.slice (m.map encT)), pp (.fn 14 [])] [] (.bool (m.any bigT)) [] :=
    ContainsFuncT encT m 14 [] _ (fun e _ => encT_sz e) fun x _ => big_spec x
  have hLa := tLams_spec l t hok hwc hl hln
  have hAp := tApps_spec t m hok hwc hm hmn
  have hV := rtValid_spec t hok
  have hVl := rValidAll_spec l fun c hc => (hl c hc).2
  have hVm := rtValidAll_spec m fun c hc => (hm c hc).1
  have hrL := rtLams_spec l t hln
  have hrA := rtApps_spec t m hmn
  have hKL := Kept_spec (lamsT l t) (okT_lams hoc hok)
  have hKA := Kept_spec (appsT t m) (okT_apps hok fun x hx => (hm x hx).1)
  obtain ⟨la1, la2, la3⟩ := lams_is (l := l) (t := t)
  obtain ⟨ap1, ap2, ap3⟩ := apps_is (l := m) (t := t)
  have hI1 := is_self zeroT 1
  have hI5 := is_self zeroT 5
  have hIL := is_self (keptT (lamsT l t)).1 (keptT (lamsT l t)).2
  have hIA := is_self (keptT (appsT t m)).1 (keptT (appsT t m)).2
  rw [encT_zero] at hI1 hI5
  clear hok hwc hl hm hoc
  generalize keptT (lamsT l t) = KL at *
  generalize keptT (appsT t m) = KA at *
  generalize LamsT l t = XL at *
  generalize AppsT t m = XA at *
  generalize lamsT l t = rL at *
  generalize appsT t m = rA at *
  generalize validT t = v at *
  generalize l.all validF = va at *
  generalize m.all validT = vm at *
  generalize bigT t = b0 at *
  generalize l.any bigCF = b1 at *
  generalize m.any bigT = b2 at *
  refine Spec.walk (rv := [.tmp 6]) ann5 138 Tryz.func5 mixed rfl rfl (by kernel_rfl) rfl rfl fun hfit => ?_
  clear hfit
  simp only [go_sem]
  refine aCall_intro hAw ?_
  simp only [go_sem, encT_sz]
  refine aCall_intro hBig ?_
  cases b0 with
  | true => simp only [go_sem]
  | false =>
    rcases (show (l.length : Int) ≤ 410 ∨ ((l.length : Int) > 410 ∧ (l.length : Int) ≤ 1000) ∨ ((l.length : Int) > 1000 ∧ (l.length : Int) ≤ 1100) ∨ (l.length : Int) > 1100 by omega) with h | h | h | h
    · -- l 1
      have d1 : decide ((l.length : Int) > 410) = false := decide_eq_false (by omega)
      have d2 : decide ((l.length : Int) > 1100) = false := decide_eq_false (by omega)
      have d3 : decide ((l.length : Int) > 1000) = false := decide_eq_false (by omega)
      rcases (show (m.length : Int) ≤ 410 ∨ ((m.length : Int) > 410 ∧ (m.length : Int) ≤ 1000) ∨ ((m.length : Int) > 1000 ∧ (m.length : Int) ≤ 1100) ∨ (m.length : Int) > 1100 by omega) with h | h | h | h
      · -- m 1
        have d4 : decide ((m.length : Int) > 410) = false := decide_eq_false (by omega)
        have d5 : decide ((m.length : Int) > 1100) = false := decide_eq_false (by omega)
        have d6 : decide ((m.length : Int) > 1000) = false := decide_eq_false (by omega)
        simp only [go_sem, encT_sz, List.length_map, d1, d2, d3, d4, d5, d6]
        refine aCall_intro hC ?_
        cases b1 with
        | true => simp only [go_sem]
        | false =>
          simp only [go_sem, encT_sz, List.length_map, d1, d2, d3, d4, d5, d6]
          refine aCall_intro hT ?_
          cases b2 with
          | true => simp only [go_sem]
          | false =>
            simp only [go_sem, encT_sz, List.length_map, d1, d2, d3, d4, d5, d6]
            refine aCall_intro hLa ?_
            simp only [go_sem, encT_sz, List.length_map, d1, d2, d3, d4, d5, d6]
            refine aCall_intro hAp ?_
            simp only [go_sem, encT_sz, List.length_map, d1, d2, d3, d4, d5, d6]
            refine aCall_intro hV ?_
            cases v with
            | false =>
              obtain rfl := la1 (.inl rfl)
              obtain rfl := ap1 (.inl rfl)
              simp only [go_sem, encT_sz, List.length_map, encT_zero, d1, d2, d3, d4, d5, d6]
              refine aCall_intro hI1 ?_
              simp only [go_sem, encT_sz, List.length_map, encT_zero, d1, d2, d3, d4, d5, d6]
              refine aCall_intro hV ?_
              simp only [go_sem, encT_sz, List.length_map, encT_zero, d1, d2, d3, d4, d5, d6]
              refine aCall_intro hI1 ?_
              simp only [go_sem, encT_sz, List.length_map, encT_zero, d1, d2, d3, d4, d5, d6]
            | true =>
              simp only [go_sem, encT_sz, List.length_map, d1, d2, d3, d4, d5, d6]
              refine aCall_intro hVl ?_
              cases va with
              | false =>
                obtain rfl := la1 (.inr rfl)
                simp only [go_sem, encT_sz, List.length_map, encT_zero, d1, d2, d3, d4, d5, d6]
                refine aCall_intro hI1 ?_
                simp only [go_sem, encT_sz, List.length_map, encT_zero, d1, d2, d3, d4, d5, d6]
                refine aCall_intro hV ?_
                simp only [go_sem, encT_sz, List.length_map, encT_zero, d1, d2, d3, d4, d5, d6]
                refine aCall_intro hVm ?_
                cases vm with
                | false =>
                  obtain rfl := ap1 (.inr rfl)
                  simp only [go_sem, encT_sz, List.length_map, encT_zero, d1, d2, d3, d4, d5, d6]
                  refine aCall_intro hI1 ?_
                  simp only [go_sem, encT_sz, List.length_map, encT_zero, d1, d2, d3, d4, d5, d6]
                | true =>
                  obtain rfl := ap3 rfl rfl (by omega)
                  simp only [go_sem, encT_sz, List.length_map, encT_zero, d1, d2, d3, d4, d5, d6]
                  refine aCall_intro hrA ?_
                  simp only [go_sem, encT_sz, List.length_map, encT_zero, d1, d2, d3, d4, d5, d6]
                  refine aCall_intro hKA ?_
                  simp only [go_sem, encT_sz, List.length_map, encT_zero, d1, d2, d3, d4, d5, d6]
                  refine aCall_intro hIA ?_
                  simp only [go_sem, encT_sz, List.length_map, encT_zero, d1, d2, d3, d4, d5, d6]
              | true =>
                obtain rfl := la3 rfl rfl (by omega)
                simp only [go_sem, encT_sz, List.length_map, encT_zero, d1, d2, d3, d4, d5, d6]
                refine aCall_intro hrL ?_
                simp only [go_sem, encT_sz, List.length_map, encT_zero, d1, d2, d3, d4, d5, d6]
                refine aCall_intro hKL ?_
                simp only [go_sem, encT_sz, List.length_map, encT_zero, d1, d2, d3, d4, d5, d6]
                refine aCall_intro hIL ?_
                simp only [go_sem, encT_sz, List.length_map, encT_zero, d1, d2, d3, d4, d5, d6]
                refine aCall_intro hV ?_
                simp only [go_sem, encT_sz, List.length_map, encT_zero, d1, d2, d3, d4, d5, d6]
                refine aCall_intro hVm ?_
                cases vm with
                | false =>
                  obtain rfl := ap1 (.inr rfl)
                  simp only [go_sem, encT_sz, List.length_map, encT_zero, d1, d2, d3, d4, d5, d6]
                  refine aCall_intro hI1 ?_
                  simp only [go_sem, encT_sz, List.length_map, encT_zero, d1, d2, d3, d4, d5, d6]
                | true =>
                  obtain rfl := ap3 rfl rfl (by omega)
                  simp only [go_sem, encT_sz, List.length_map, encT_zero, d1, d2, d3, d4, d5, d6]
                  refine aCall_intro hrA ?_
                  simp only [go_sem, encT_sz, List.length_map, encT_zero, d1, d2, d3, d4, d5, d6]
                  refine aCall_intro hKA ?_
                  simp only [go_sem, encT_sz, List.length_map, encT_zero, d1, d2, d3, d4, d5, d6]
                  refine aCall_intro hIA ?_
                  simp only [go_sem, encT_sz, List.length_map, encT_zero, d1, d2, d3, d4, d5, d6]
      · -- m 2
        have d7 : decide ((m.length : Int) > 410) = true := decide_eq_true (by omega)
        have d8 : decide ((m.length : Int) ≤ 1000) = true := decide_eq_true (by omega)
        simp only [go_sem, encT_sz, List.length_map, d1, d2, d3, d7, d8]
      · -- m 3
        have d9 : decide ((m.length : Int) > 410) = true := decide_eq_true (by omega)
        have d10 : decide ((m.length : Int) ≤ 1000) = false := decide_eq_false (by omega)
        have d11 : decide ((m.length : Int) > 1100) = false := decide_eq_false (by omega)
        have d12 : decide ((m.length : Int) > 1000) = true := decide_eq_true (by omega)
        simp only [go_sem, encT_sz, List.length_map, d1, d2, d3, d9, d10, d11, d12]
        refine aCall_intro hC ?_
        cases b1 with
        | true => simp only [go_sem]
        | false =>
          simp only [go_sem, encT_sz, List.length_map, d1, d2, d3, d9, d10, d11, d12]
          refine aCall_intro hT ?_
          cases b2 with
          | true => simp only [go_sem]
          | false =>
            simp only [go_sem, encT_sz, List.length_map, d1, d2, d3, d9, d10, d11, d12]
            refine aCall_intro hLa ?_
            simp only [go_sem, encT_sz, List.length_map, d1, d2, d3, d9, d10, d11, d12]
            refine aCall_intro hAp ?_
            simp only [go_sem, encT_sz, List.length_map, d1, d2, d3, d9, d10, d11, d12]
            refine aCall_intro hV ?_
            cases v with
            | false =>
              obtain rfl := la1 (.inl rfl)
              obtain rfl := ap1 (.inl rfl)
              simp only [go_sem, encT_sz, List.length_map, encT_zero, d1, d2, d3, d9, d10, d11, d12]
              refine aCall_intro hI1 ?_
              simp only [go_sem, encT_sz, List.length_map, encT_zero, d1, d2, d3, d9, d10, d11, d12]
              refine aCall_intro hV ?_
              simp only [go_sem, encT_sz, List.length_map, encT_zero, d1, d2, d3, d9, d10, d11, d12]
              refine aCall_intro hI1 ?_
              simp only [go_sem, encT_sz, List.length_map, encT_zero, d1, d2, d3, d9, d10, d11, d12]
            | true =>
              simp only [go_sem, encT_sz, List.length_map, d1, d2, d3, d9, d10, d11, d12]
              refine aCall_intro hVl ?_
              cases va with
              | false =>
                obtain rfl := la1 (.inr rfl)
                simp only [go_sem, encT_sz, List.length_map, encT_zero, d1, d2, d3, d9, d10, d11, d12]
                refine aCall_intro hI1 ?_
                simp only [go_sem, encT_sz, List.length_map, encT_zero, d1, d2, d3, d9, d10, d11, d12]
                refine aCall_intro hV ?_
                simp only [go_sem, encT_sz, List.length_map, encT_zero, d1, d2, d3, d9, d10, d11, d12]
                refine aCall_intro hVm ?_
                cases vm with
                | false =>
                  obtain rfl := ap1 (.inr rfl)
                  simp only [go_sem, encT_sz, List.length_map, encT_zero, d1, d2, d3, d9, d10, d11, d12]
                  refine aCall_intro hI1 ?_
                  simp only [go_sem, encT_sz, List.length_map, encT_zero, d1, d2, d3, d9, d10, d11, d12]
                | true =>
                  obtain rfl := ap2 rfl rfl (by omega)
                  simp only [go_sem, encT_sz, List.length_map, encT_zero, d1, d2, d3, d9, d10, d11, d12]
                  refine aCall_intro hI5 ?_
                  simp only [go_sem, encT_sz, List.length_map, encT_zero, d1, d2, d3, d9, d10, d11, d12]
              | true =>
                obtain rfl := la3 rfl rfl (by omega)
                simp only [go_sem, encT_sz, List.length_map, encT_zero, d1, d2, d3, d9, d10, d11, d12]
                refine aCall_intro hrL ?_
                simp only [go_sem, encT_sz, List.length_map, encT_zero, d1, d2, d3, d9, d10, d11, d12]
                refine aCall_intro hKL ?_
                simp only [go_sem, encT_sz, List.length_map, encT_zero, d1, d2, d3, d9, d10, d11, d12]
                refine aCall_intro hIL ?_
                simp only [go_sem, encT_sz, List.length_map, encT_zero, d1, d2, d3, d9, d10, d11, d12]
                refine aCall_intro hV ?_
                simp only [go_sem, encT_sz, List.length_map, encT_zero, d1, d2, d3, d9, d10, d11, d12]
                refine aCall_intro hVm ?_
                cases vm with
                | false =>
                  obtain rfl := ap1 (.inr rfl)
                  simp only [go_sem, encT_sz, List.length_map, encT_zero, d1, d2, d3, d9, d10, d11, d12]
                  refine aCall_intro hI1 ?_
                  simp only [go_sem, encT_sz, List.length_map, encT_zero, d1, d2, d3, d9, d10, d11, d12]
                | true =>
                  obtain rfl := ap2 rfl rfl (by omega)
                  simp only [go_sem, encT_sz, List.length_map, encT_zero, d1, d2, d3, d9, d10, d11, d12]
                  refine aCall_intro hI5 ?_
                  simp only [go_sem, encT_sz, List.length_map, encT_zero, d1, d2, d3, d9, d10, d11, d12]
      · -- m 4
        have d13 : decide ((m.length : Int) > 410) = true := decide_eq_true (by omega)
        have d14 : decide ((m.length : Int) ≤ 1000) = false := decide_eq_false (by omega)
        have d15 : decide ((m.length : Int) > 1100) = true := decide_eq_true (by omega)
        simp only [go_sem, encT_sz, List.length_map, d1, d2, d3, d13, d14, d15]
    · -- l 2
      have d16 : decide ((l.length : Int) > 410) = true := decide_eq_true (by omega)
      have d17 : decide ((l.length : Int) ≤ 1000) = true := decide_eq_true (by omega)
      simp only [go_sem, encT_sz, List.length_map, d16, d17]
    · -- l 3
      have d18 : decide ((l.length : Int) > 410) = true := decide_eq_true (by omega)
      have d19 : decide ((l.length : Int) ≤ 1000) = false := decide_eq_false (by omega)
      have d20 : decide ((l.length : Int) > 1100) = false := decide_eq_false (by omega)
      have d21 : decide ((l.length : Int) > 1000) = true := decide_eq_true (by omega)
      rcases (show (m.length : Int) ≤ 410 ∨ ((m.length : Int) > 410 ∧ (m.length : Int) ≤ 1000) ∨ ((m.length : Int) > 1000 ∧ (m.length : Int) ≤ 1100) ∨ (m.length : Int) > 1100 by omega) with h | h | h | h
      · -- m 1
        have d22 : decide ((m.length : Int) > 410) = false := decide_eq_false (by omega)
        have d23 : decide ((m.length : Int) > 1100) = false := decide_eq_false (by omega)
        have d24 : decide ((m.length : Int) > 1000) = false := decide_eq_false (by omega)
        simp only [go_sem, encT_sz, List.length_map, d18, d19, d20, d21, d22, d23, d24]
        refine aCall_intro hC ?_
        cases b1 with
        | true => simp only [go_sem]
        | false =>
          simp only [go_sem, encT_sz, List.length_map, d18, d19, d20, d21, d22, d23, d24]
          refine aCall_intro hT ?_
          cases b2 with
          | true => simp only [go_sem]
          | false =>
            simp only [go_sem, encT_sz, List.length_map, d18, d19, d20, d21, d22, d23, d24]
            refine aCall_intro hLa ?_
            simp only [go_sem, encT_sz, List.length_map, d18, d19, d20, d21, d22, d23, d24]
            refine aCall_intro hAp ?_
            simp only [go_sem, encT_sz, List.length_map, d18, d19, d20, d21, d22, d23, d24]
            refine aCall_intro hV ?_
            cases v with
            | false =>
              obtain rfl := la1 (.inl rfl)
              obtain rfl := ap1 (.inl rfl)
              simp only [go_sem, encT_sz, List.length_map, encT_zero, d18, d19, d20, d21, d22, d23, d24]
              refine aCall_intro hI1 ?_
              simp only [go_sem, encT_sz, List.length_map, encT_zero, d18, d19, d20, d21, d22, d23, d24]
              refine aCall_intro hV ?_
              simp only [go_sem, encT_sz, List.length_map, encT_zero, d18, d19, d20, d21, d22, d23, d24]
              refine aCall_intro hI1 ?_
              simp only [go_sem, encT_sz, List.length_map, encT_zero, d18, d19, d20, d21, d22, d23, d24]
            | true =>
              simp only [go_sem, encT_sz, List.length_map, d18, d19, d20, d21, d22, d23, d24]
              refine aCall_intro hVl ?_
              cases va with
              | false =>
                obtain rfl := la1 (.inr rfl)
                simp only [go_sem, encT_sz, List.length_map, encT_zero, d18, d19, d20, d21, d22, d23, d24]
                refine aCall_intro hI1 ?_
                simp only [go_sem, encT_sz, List.length_map, encT_zero, d18, d19, d20, d21, d22, d23, d24]
                refine aCall_intro hV ?_
                simp only [go_sem, encT_sz, List.length_map, encT_zero, d18, d19, d20, d21, d22, d23, d24]
                refine aCall_intro hVm ?_
                cases vm with
                | false =>
                  obtain rfl := ap1 (.inr rfl)
                  simp only [go_sem, encT_sz, List.length_map, encT_zero, d18, d19, d20, d21, d22, d23, d24]
                  refine aCall_intro hI1 ?_
                  simp only [go_sem, encT_sz, List.length_map, encT_zero, d18, d19, d20, d21, d22, d23, d24]
                | true =>
                  obtain rfl := ap3 rfl rfl (by omega)
                  simp only [go_sem, encT_sz, List.length_map, encT_zero, d18, d19, d20, d21, d22, d23, d24]
                  refine aCall_intro hrA ?_
                  simp only [go_sem, encT_sz, List.length_map, encT_zero, d18, d19, d20, d21, d22, d23, d24]
                  refine aCall_intro hKA ?_
                  simp only [go_sem, encT_sz, List.length_map, encT_zero, d18, d19, d20, d21, d22, d23, d24]
                  refine aCall_intro hIA ?_
                  simp only [go_sem, encT_sz, List.length_map, encT_zero, d18, d19, d20, d21, d22, d23, d24]
              | true =>
                obtain rfl := la2 rfl rfl (by omega)
                simp only [go_sem, encT_sz, List.length_map, encT_zero, d18, d19, d20, d21, d22, d23, d24]
                refine aCall_intro hI5 ?_
                simp only [go_sem, encT_sz, List.length_map, encT_zero, d18, d19, d20, d21, d22, d23, d24]
                refine aCall_intro hV ?_
                simp only [go_sem, encT_sz, List.length_map, encT_zero, d18, d19, d20, d21, d22, d23, d24]
                refine aCall_intro hVm ?_
                cases vm with
                | false =>
                  obtain rfl := ap1 (.inr rfl)
                  simp only [go_sem, encT_sz, List.length_map, encT_zero, d18, d19, d20, d21, d22, d23, d24]
                  refine aCall_intro hI1 ?_
                  simp only [go_sem, encT_sz, List.length_map, encT_zero, d18, d19, d20, d21, d22, d23, d24]
                | true =>
                  obtain rfl := ap3 rfl rfl (by omega)
                  simp only [go_sem, encT_sz, List.length_map, encT_zero, d18, d19, d20, d21, d22, d23, d24]
                  refine aCall_intro hrA ?_
                  simp only [go_sem, encT_sz, List.length_map, encT_zero, d18, d19, d20, d21, d22, d23, d24]
                  refine aCall_intro hKA ?_
                  simp only [go_sem, encT_sz, List.length_map, encT_zero, d18, d19, d20, d21, d22, d23, d24]
                  refine aCall_intro hIA ?_
                  simp only [go_sem, encT_sz, List.length_map, encT_zero, d18, d19, d20, d21, d22, d23, d24]
      · -- m 2
        have d25 : decide ((m.length : Int) > 410) = true := decide_eq_true (by omega)
        have d26 : decide ((m.length : Int) ≤ 1000) = true := decide_eq_true (by omega)
        simp only [go_sem, encT_sz, List.length_map, d18, d19, d20, d21, d25, d26]
      · -- m 3
        have d27 : decide ((m.length : Int) > 410) = true := decide_eq_true (by omega)
        have d28 : decide ((m.length : Int) ≤ 1000) = false := decide_eq_false (by omega)
        have d29 : decide ((m.length : Int) > 1100) = false := decide_eq_false (by omega)
        have d30 : decide ((m.length : Int) > 1000) = true := decide_eq_true (by omega)
        simp only [go_sem, encT_sz, List.length_map, d18, d19, d20, d21, d27, d28, d29, d30]
        refine aCall_intro hC ?_
        cases b1 with
        | true => simp only [go_sem]
        | false =>
          simp only [go_sem, encT_sz, List.length_map, d18, d19, d20, d21, d27, d28, d29, d30]
          refine aCall_intro hT ?_
          cases b2 with
          | true => simp only [go_sem]
          | false =>
            simp only [go_sem, encT_sz, List.length_map, d18, d19, d20, d21, d27, d28, d29, d30]
            refine aCall_intro hLa ?_
            simp only [go_sem, encT_sz, List.length_map, d18, d19, d20, d21, d27, d28, d29, d30]
            refine aCall_intro hAp ?_
            simp only [go_sem, encT_sz, List.length_map, d18, d19, d20, d21, d27, d28, d29, d30]
            refine aCall_intro hV ?_
            cases v with
            | false =>
              obtain rfl := la1 (.inl rfl)
              obtain rfl := ap1 (.inl rfl)
              simp only [go_sem, encT_sz, List.length_map, encT_zero, d18, d19, d20, d21, d27, d28, d29, d30]
              refine aCall_intro hI1 ?_
              simp only [go_sem, encT_sz, List.length_map, encT_zero, d18, d19, d20, d21, d27, d28, d29, d30]
              refine aCall_intro hV ?_
              simp only [go_sem, encT_sz, List.length_map, encT_zero, d18, d19, d20, d21, d27, d28, d29, d30]
              refine aCall_intro hI1 ?_
              simp only [go_sem, encT_sz, List.length_map, encT_zero, d18, d19, d20, d21, d27, d28, d29, d30]
            | true =>
              simp only [go_sem, encT_sz, List.length_map, d18, d19, d20, d21, d27, d28, d29, d30]
              refine aCall_intro hVl ?_
              cases va with
              | false =>
                obtain rfl := la1 (.inr rfl)
                simp only [go_sem, encT_sz, List.length_map, encT_zero, d18, d19, d20, d21, d27, d28, d29, d30]
                refine aCall_intro hI1 ?_
                simp only [go_sem, encT_sz, List.length_map, encT_zero, d18, d19, d20, d21, d27, d28, d29, d30]
                refine aCall_intro hV ?_
                simp only [go_sem, encT_sz, List.length_map, encT_zero, d18, d19, d20, d21, d27, d28, d29, d30]
                refine aCall_intro hVm ?_
                cases vm with
                | false =>
                  obtain rfl := ap1 (.inr rfl)
                  simp only [go_sem, encT_sz, List.length_map, encT_zero, d18, d19, d20, d21, d27, d28, d29, d30]
                  refine aCall_intro hI1 ?_
                  simp only [go_sem, encT_sz, List.length_map, encT_zero, d18, d19, d20, d21, d27, d28, d29, d30]
                | true =>
                  obtain rfl := ap2 rfl rfl (by omega)
                  simp only [go_sem, encT_sz, List.length_map, encT_zero, d18, d19, d20, d21, d27, d28, d29, d30]
                  refine aCall_intro hI5 ?_
                  simp only [go_sem, encT_sz, List.length_map, encT_zero, d18, d19, d20, d21, d27, d28, d29, d30]
              | true =>
                obtain rfl := la2 rfl rfl (by omega)
                simp only [go_sem, encT_sz, List.length_map, encT_zero, d18, d19, d20, d21, d27, d28, d29, d30]
                refine aCall_intro hI5 ?_
                simp only [go_sem, encT_sz, List.length_map, encT_zero, d18, d19, d20, d21, d27, d28, d29, d30]
                refine aCall_intro hV ?_
                simp only [go_sem, encT_sz, List.length_map, encT_zero, d18, d19, d20, d21, d27, d28, d29, d30]
                refine aCall_intro hVm ?_
                cases vm with
                | false =>
                  obtain rfl := ap1 (.inr rfl)
                  simp only [go_sem, encT_sz, List.length_map, encT_zero, d18, d19, d20, d21, d27, d28, d29, d30]
                  refine aCall_intro hI1 ?_
                  simp only [go_sem, encT_sz, List.length_map, encT_zero, d18, d19, d20, d21, d27, d28, d29, d30]
                | true =>
                  obtain rfl := ap2 rfl rfl (by omega)
                  simp only [go_sem, encT_sz, List.length_map, encT_zero, d18, d19, d20, d21, d27, d28, d29, d30]
                  refine aCall_intro hI5 ?_
                  simp only [go_sem, encT_sz, List.length_map, encT_zero, d18, d19, d20, d21, d27, d28, d29, d30]
      · -- m 4
        have d31 : decide ((m.length : Int) > 410) = true := decide_eq_true (by omega)
        have d32 : decide ((m.length : Int) ≤ 1000) = false := decide_eq_false (by omega)
        have d33 : decide ((m.length : Int) > 1100) = true := decide_eq_true (by omega)
        simp only [go_sem, encT_sz, List.length_map, d18, d19, d20, d21, d31, d32, d33]
    · -- l 4
      have d34 : decide ((l.length : Int) > 410) = true := decide_eq_true (by omega)
      have d35 : decide ((l.length : Int) ≤ 1000) = false := decide_eq_false (by omega)
      have d36 : decide ((l.length : Int) > 1100) = true := decide_eq_true (by omega)
      simp only [go_sem, encT_sz, List.length_map, d34, d35, d36]
end Go.Abs.Kon
