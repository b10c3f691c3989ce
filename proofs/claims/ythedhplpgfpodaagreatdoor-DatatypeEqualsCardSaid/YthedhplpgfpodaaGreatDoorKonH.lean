/- The reference's shifting and substituting; maps of leaves. -/
import Derived.Test.YthedhplpgfpodaaGreatDoorKonG
set_option linter.unusedSimpArgs false
namespace Go.Abs.Kon
open Go Go.Proofs Go.Abs
set_option maxRecDepth 100000
set_option maxHeartbeats 4000000

def deepF (op depth : Int) : Int := if isBinder op then depth + 1 else depth
theorem deep_spec (op n : Int) (s : ByteArray) (k : List KindT) (names : List ByteArray) (l : List ConT) (depth : Int) (h1 : 0 ≤ depth) (h2 : depth ≤ 2000000000) :
    Spec Tryz.prog 308 [pp (rawC op n s k names l), ii depth] [] (.int .i64 (deepF op depth)) [] := by
  have hB := rBinder_spec op
  have w1 : IntKind.i64.wrap (depth + 1) = depth + 1 := wrap_id (by omega) (by omega)
  rw [deepF]
  refine wk (rv := [.tmp 4]) ann308 11 Tryz.func308 ?_
  simp only [go_sem]
  refine aCall_intro hB ?_
  simp only [go_sem]
  refine condK_intro (fun hb => ?_) (fun hb => ?_)
  · simp only [go_sem, hb, w1]
  · simp only [go_sem, hb]


/-! Parts of the laws -/

mutual
def mapF (leaf : ConT → Int → ConT) : ConT → Int → ConT
  | .mk op n s k names l, b => if op = 1 ∨ op = 2 then leaf (.mk op n s k names l) b else .mk op n s k names (mapL leaf l (if isBinder op then b + 1 else b))
def mapL (leaf : ConT → Int → ConT) : List ConT → Int → List ConT
  | [], _ => []
  | x :: r, b => mapF leaf x b :: mapL leaf r b
end

theorem rebF_neg (leaf : ConT → Int → ConT) (c : ConT) (b left : Int) (h : left ≤ 0) : (rebF leaf c b left).2 = -1 := by
  cases c; rw [rebF, if_pos h]
theorem rebL_neg (leaf : ConT → Int → ConT) : ∀ (l : List ConT) (b left : Int), left < 0 → (rebL leaf l b left).2 < 0
  | [], b, left, h => by rw [rebL]; exact h
  | x :: r, b, left, h => by
    rw [rebL]
    exact rebL_neg leaf r b _ (by rw [rebF_neg leaf x b left (by omega)]; decide)
mutual
theorem rebF_map (leaf : ConT → Int → ConT) : ∀ (c : ConT) (b left : Int), 0 ≤ left →
    ((sizeF (mapF leaf c b) : Int) ≤ left → rebF leaf c b left = (mapF leaf c b, left - sizeF (mapF leaf c b))) ∧ (¬ (sizeF (mapF leaf c b) : Int) ≤ left → (rebF leaf c b left).2 < 0)
  | .mk op n s k names l, b, left, h => by
    have hp := sizeF_pos (mapF leaf (.mk op n s k names l) b)
    by_cases h0 : left ≤ 0
    · exact ⟨fun h1 => by omega, fun _ => by rw [rebF_neg _ _ _ _ h0]; decide⟩
    · rw [rebF, if_neg h0, mapF]
      by_cases ho : op = 1 ∨ op = 2
      · rw [if_pos ho, if_pos ho]
        exact ⟨fun _ => rfl, fun h1 => by simp only; omega⟩
      · rw [if_neg ho, if_neg ho]
        obtain ⟨h1, h2⟩ := rebL_map leaf l (if isBinder op then b + 1 else b) (left - 1) (by omega)
        rw [sizeF]
        refine ⟨fun h3 => ?_, fun h3 => ?_⟩
        · have := h1 (by omega)
          rw [this]
          simp only [Prod.mk.injEq, true_and]
          omega
        · exact h2 (by omega)
theorem rebL_map (leaf : ConT → Int → ConT) : ∀ (l : List ConT) (b left : Int), 0 ≤ left →
    ((sizeL (mapL leaf l b) : Int) ≤ left → rebL leaf l b left = (mapL leaf l b, left - sizeL (mapL leaf l b))) ∧ (¬ (sizeL (mapL leaf l b) : Int) ≤ left → (rebL leaf l b left).2 < 0)
  | [], b, left, h => by
    rw [mapL, rebL, sizeL]
    exact ⟨fun _ => by simp, fun h1 => by omega⟩
  | x :: r, b, left, h => by
    obtain ⟨h1, h2⟩ := rebF_map leaf x b left h
    rw [mapL, rebL, sizeL]
    by_cases hx : (sizeF (mapF leaf x b) : Int) ≤ left
    · rw [h1 hx]
      obtain ⟨h3, h4⟩ := rebL_map leaf r b (left - sizeF (mapF leaf x b)) (by omega)
      refine ⟨fun h5 => ?_, fun h5 => ?_⟩
      · rw [h3 (by omega)]
        simp only [Prod.mk.injEq, true_and]
        omega
      · exact h4 (by omega)
    · exact ⟨fun h5 => by omega, fun _ => rebL_neg leaf r b _ (h2 hx)⟩
end

def isLeaf (x : ConT) : Prop := x.op = 1 ∨ x.op = 2
mutual
theorem map_id {l1 : ConT → Int → ConT} (h : ∀ x b, isLeaf x → formedF x = true → l1 x b = x) : ∀ (c : ConT) (b : Int), formedF c = true → mapF l1 c b = c
  | .mk op n s k names l, b, hf => by
    rw [mapF]
    by_cases ho : op = 1 ∨ op = 2
    · rw [if_pos ho]
      exact h (.mk op n s k names l) _ ho hf
    · rw [if_neg ho, map_idL h l _ (by rw [formedF, Bool.and_eq_true] at hf; exact hf.2)]
theorem map_idL {l1 : ConT → Int → ConT} (h : ∀ x b, isLeaf x → formedF x = true → l1 x b = x) : ∀ (l : List ConT) (b : Int), formedL l = true → mapL l1 l b = l
  | [], b, hf => by rw [mapL]
  | x :: r, b, hf => by
    rw [formedL, Bool.and_eq_true] at hf
    rw [mapL, map_id h x b hf.1, map_idL h r b hf.2]
end
/-! Leaves that are mapped again -/

/-! Substitutions commute -/

theorem lost_false (c : ConT) (by' from' : Int) (h : ∀ x b, (x, b) ∈ leaves c 0 → ¬ (x.op = 1 ∧ x.n - b ≥ from' ∧ x.n - b + by' < from')) : lostF c by' from' = false := by
  rw [lostF]
  generalize hl : leaves c 0 = l at h
  clear hl
  have : ∀ l : List (ConT × Int), (∀ x b, (x, b) ∈ l → ¬ (x.op = 1 ∧ x.n - b ≥ from' ∧ x.n - b + by' < from')) → l.foldl (lostStep by' from') false = false := by
    intro l
    induction l with
    | nil => intro _; rfl
    | cons p r ih =>
      intro h
      obtain ⟨x, b⟩ := p
      rw [List.foldl_cons]
      have h1 := h x b (by simp)
      have : lostStep by' from' false (x, b) = false := by
        rw [lostStep]
        by_cases e1 : x.op = 1
        · by_cases e2 : x.n - b ≥ from'
          · have e3 : ¬ x.n - b + by' < from' := fun e3 => h1 ⟨e1, e2, e3⟩
            simp only [decide_eq_false e3]; simp
          · simp only [decide_eq_false e2]; simp
        · have : (x.op == 1) = false := by simpa using e1
          simp only [this]; simp
      rw [this]
      exact ih fun y b' hy => h y b' (by simp [hy])
  exact this l h
/-! Small constructors -/

end Go.Abs.Kon
