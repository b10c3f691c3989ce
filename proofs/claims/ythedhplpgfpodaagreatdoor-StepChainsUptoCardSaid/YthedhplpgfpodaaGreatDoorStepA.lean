/- Small steps. -/
import Derived.Test.YthedhplpgfpodaaGreatDoorTermN
import Derived.Test.YthedhplpgfpodaaGreatDoorTermK
import Derived.Test.YthedhplpgfpodaaGreatDoorTermM
import Derived.Test.YthedhplpgfpodaaGreatDoorTermL
import Derived.Test.YthedhplpgfpodaaGreatDoorKonI
import Derived.Lib.ItoaLen
import Derived.Test.YthedhplpgfpodaaGreatDoorShelfA
import Derived.Test.YthedhplpgfpodaaGreatDoorKonG
import Derived.Lib.AppendIntMem
import Derived.Lib.ItoaMem
set_option linter.unusedSimpArgs false
set_option linter.unusedVariables false
namespace Go.Abs.Kon
open Go Go.Proofs Go.Abs
set_option maxRecDepth 100000
set_option maxHeartbeats 4000000
def actT (op : Int) (nl : Nat) : Nat := if op = 5 ∨ op = 10 ∨ op = 18 then nl else if op = 7 ∨ op = 8 ∨ op = 9 ∨ op = 11 ∨ op = 12 ∨ op = 13 ∨ op = 14 ∨ op = 15 ∨ op = 17 then 1 else 0
def funT (t : TermT) : Bool := t.op == 4 || t.op == 6
def headFun : List TermT → Bool
 | x :: _ => funT x
 | [] => false
mutual
def resT : TermT → Bool
 | .mk op _ _ _ _ _ _ l => if op = 2 ∨ op = 3 ∨ op = 4 ∨ op = 6 then true else if op = 16 then headFun l else if op = 10 ∨ op = 12 ∨ op = 14 ∨ op = 8 then resL l else false
def resL : List TermT → Bool
 | [] => true
 | x :: r => resT x && resL r
end
def innL : List TermT → Nat → Int → Int
 | [], _, _ => -1
 | _ :: _, 0, _ => -1
 | x :: r, a + 1, i => if resT x = true then innL r a (i + 1) else i
mutual
def nextT : TermT → TermT
 | .mk op n s con to k names l => nextL l (actT op l.length) (.mk op n s con to k names l)
def nextL : List TermT → Nat → TermT → TermT
 | [], _, t => t
 | _ :: _, 0, t => t
 | x :: r, a + 1, t => if resT x = true then nextL r a t else nextT x
end
mutual
def rbT (b : TermT) : TermT → TermT
 | .mk op n s con to k names l => match rbTs b l (actT op l.length) with
   | some l' => .mk op n s con to k names l'
   | none => b
def rbTs (b : TermT) : List TermT → Nat → Option (List TermT)
 | [], _ => none
 | _ :: _, 0 => none
 | x :: r, a + 1 => if resT x = true then (rbTs b r a).map (x :: ·) else some (rbT b x :: r)
end
/-! Contractions -/
def nodeL (op : Int) (l : List TermT) : TermT := .mk op 0 ByteArray.empty zeroC zeroC [] [] l
def conZ (op : Int) : ConT := .mk op 0 ByteArray.empty [] [] []
def failT (n c : Int) : TermT := .mk 19 n ByteArray.empty (conZ c) zeroC [] [] []
def intT (n : Int) : TermT := .mk 2 n ByteArray.empty zeroC zeroC [] [] []
def txtT (s : ByteArray) : TermT := .mk 3 0 s zeroC zeroC [] [] []
def mostN : Int := 4503599627370496
def qcy (n : Int) (ok : Bool) : TermT := if ok = false ∨ n < -mostN ∨ n > mostN then failT 2 4 else intT n
def sumC : ConT := .mk 8 0 ByteArray.empty [] [strF, strT] [unitC, unitC]
def unitT : TermT := nodeL 10 []
def truthT (b : Bool) : TermT := .mk 14 0 ByteArray.empty boolC zeroC [] [] [.mk 12 0 (if b then strT else strF) sumC zeroC [] [] [unitT]]
def showS (n : Int) : ByteArray := ⟨(Lib.itoa n).toArray⟩
def absI (n : Int) : Int := if -n > n then -n else n
def mulOk (a b : Int) : Bool := a == 0 || decide (absI b ≤ mostN.tdiv (absI a))
def qdq (op a b : Int) : TermT :=
 if op = 1 then qcy (a + b) true else if op = 2 then qcy (a - b) true else if op = 3 then qcy (a * b) (mulOk a b) else if op = 6 then qcy (0 - a) true else
 if op = 7 then truthT (decide (a < b)) else if op = 8 then truthT (decide (a ≤ b)) else if op = 9 then truthT (a == b) else if op = 13 then txtT (showS a) else
 if b = 0 then failT 3 4 else if op = 4 then qcy (a.tdiv b) true else qcy (a.tmod b) true
def qci (op : Int) (a b : ByteArray) : TermT × List ByteArray :=
 if op = 10 then (if (a.size : Int) + b.size > 16384 then failT 2 5 else txtT (a ++ b), []) else if op = 11 then (qcy a.size true, []) else
 if op = 12 then (truthT (a.toList == b.toList), []) else (unitT, [a])
def qco (n : Int) : Bool := n == 10 || n == 11 || n == 12 || n == 14
def qdl (n : Int) : Int := if qco n = true then 3 else 2
def qcg (l : List TermT) : TermT := l.getLastD zeroT
def hdT (l : List TermT) : TermT := l.headD zeroT
def sndT (l : List TermT) : TermT := hdT l.tail
def operT (n : Int) (l : List TermT) : TermT × List ByteArray × Int :=
 if l.any (fun x => x.op != qdl n) = true then (zeroT, [], 23) else
 if qco n = true then ((qci n (hdT l).s (qcg l).s).1, (qci n (hdT l).s (qcg l).s).2, 0) else (qdq n (hdT l).n (qcg l).n, [], 0)
def applT (v w : TermT) : TermT × Int := if v.op = 4 then SubstT (hdT v.l) w else if v.op = 16 ∧ (hdT v.l).op = 4 then (nodeL 5 [(SubstT (hdT v.l) v).1, w], (SubstT (hdT v.l) v).2) else (zeroT, 23)
def tappT (c : ConT) (x : TermT) : TermT := .mk 7 0 ByteArray.empty c zeroC [] [] [x]
def instT (v : TermT) (c : ConT) : TermT × Int := if v.op = 6 then SubstConsT (hdT v.l) [c] else if v.op = 16 ∧ (hdT v.l).op = 6 then (tappT c (SubstT (hdT v.l) v).1, (SubstT (hdT v.l) v).2) else (zeroT, 23)
def findS : List ByteArray → ByteArray → Int → Int
 | [], _, _ => -1
 | x :: r, s, i => if (x.toList == s.toList) = true then i else findS r s (i + 1)
def qbj (op : Int) (s : ByteArray) (con : ConT) (names : List ByteArray) (l : List TermT) : TermT × Int :=
 if op = 5 then applT (hdT l) (sndT l) else if op = 7 then instT (hdT l) con else if op = 17 then SubstT (sndT l) (hdT l) else
 if op = 9 ∧ (hdT l).op = 8 then (if (SubstConsT (sndT l) [(hdT l).con]).2 = 0 then SubstT (SubstConsT (sndT l) [(hdT l).con]).1 (hdT (hdT l).l) else SubstConsT (sndT l) [(hdT l).con]) else
 if op = 11 ∧ (hdT l).op = 10 ∧ 0 ≤ findS (hdT l).names s 0 then ((hdT l).l.getD (findS (hdT l).names s 0).toNat zeroT, 0) else
 if op = 13 ∧ (hdT l).op = 12 ∧ 0 ≤ findS names (hdT l).s 0 then SubstT (l.getD ((findS names (hdT l).s 0).toNat + 1) zeroT) (hdT (hdT l).l) else
 if op = 15 ∧ (hdT l).op = 14 then (hdT (hdT l).l, 0) else (zeroT, 23)
def contrT : TermT → TermT × List ByteArray × Int
 | .mk op n s con _ _ names l => if op = 18 then operT n l else if actT op l.length = 0 then (zeroT, [], 23) else ((qbj op s con names l).1, [], (qbj op s con names l).2)
/-! A step -/
mutual
def advT : TermT → TermT × List ByteArray × Int
 | .mk op n s con to k names l => match advL l (actT op l.length) with
   | none => if op = 19 then (zeroT, [], 7) else contrT (.mk op n s con to k names l)
   | some (l', o, e) => if e ≠ 0 then (zeroT, [], e) else (.mk op n s con to k names l', o, 0)
def advL : List TermT → Nat → Option (List TermT × List ByteArray × Int)
 | [], _ => none
 | _ :: _, 0 => none
 | x :: r, a + 1 => if resT x = true then (advL r a).map (fun p => (x :: p.1, p.2)) else some ((advT x).1 :: r, (advT x).2)
end
def qan (t : TermT) : Bool := qab t && (decide ((qar (consF t 0)).length = 0) && decide ((qar (termsF t 0)).length = 0))
def stepR (r : TermT × List ByteArray × Int) : TermT × List ByteArray × Int :=
 if r.2.2 ≠ 0 then (zeroT, [], r.2.2) else if qab r.1 = false then (zeroT, [], 6) else (r.1, r.2.1, 0)
def qak (t : TermT) : TermT × List ByteArray × Int := if qan t = false then (zeroT, [], 1) else if resT t = true then (zeroT, [], 7) else stepR (advT t)
def failN (t : TermT) : Int := if resT t = true then 0 else if (nextT t).op = 19 then (nextT t).n else 0
/-! The reference -/
def rprimT (n : Int) (l : List TermT) : TermT × ByteArray × Bool × Bool :=
 if l.any (fun x => x.op != qdl n) = true then (zeroT, ByteArray.empty, false, false) else
 if qco n = true then (if n = 14 then (unitT, (hdT l).s, true, true) else ((qci n (hdT l).s (qcg l).s).1, ByteArray.empty, false, true)) else (qdq n (hdT l).n (qcg l).n, ByteArray.empty, false, true)
def qax (op : Int) (s : ByteArray) (con : ConT) (names : List ByteArray) (l : List TermT) : Option TermT :=
 if op = 5 then (if (hdT l).op = 4 then some (qbm (sndT l) (hdT (hdT l).l) 0 0) else if (hdT l).op = 16 ∧ (hdT (hdT l).l).op = 4 then some (nodeL 5 [qbm (hdT l) (hdT (hdT l).l) 0 0, sndT l]) else none) else
 if op = 7 then (if (hdT l).op = 6 then some (qdm [con] (hdT (hdT l).l) 0) else if (hdT l).op = 16 ∧ (hdT (hdT l).l).op = 6 then some (tappT con (qbm (hdT l) (hdT (hdT l).l) 0 0)) else none) else
 if op = 9 then (if (hdT l).op = 8 then some (qbm (hdT (hdT l).l) (qdm [(hdT l).con] (sndT l) 0) 0 0) else none) else
 if op = 11 then (if (hdT l).op = 10 ∧ 0 ≤ findS (hdT l).names s 0 then some ((hdT l).l.getD (findS (hdT l).names s 0).toNat zeroT) else none) else
 if op = 13 then (if (hdT l).op = 12 ∧ 0 ≤ findS names (hdT l).s 0 then some (qbm (hdT (hdT l).l) (l.getD ((findS names (hdT l).s 0).toNat + 1) zeroT) 0 0) else none) else
 if op = 15 then (if (hdT l).op = 14 then some (hdT (hdT l).l) else none) else
 if op = 17 then some (qbm (hdT l) (sndT l) 0 0) else none
def rcontrT : TermT → TermT × ByteArray × Bool × Bool
 | .mk op n s con _ _ names l => if op = 18 then rprimT n l else if actT op l.length = 0 ∨ l = [] then (zeroT, ByteArray.empty, false, false) else match qax op s con names l with
   | some r => (r, ByteArray.empty, false, true)
   | none => (zeroT, ByteArray.empty, false, false)
def qcf (t : TermT) : TermT × List ByteArray × Int :=
 if qan t = false then (zeroT, [], 1) else if resT t = true ∨ failN t > 0 then (zeroT, [], 7) else
 if (rcontrT (nextT t)).2.2.2 = false then (zeroT, [], 23) else
 if qab (rbT (rcontrT (nextT t)).1 t) = false then (zeroT, [], 6) else
 (rbT (rcontrT (nextT t)).1 t, if (rcontrT (nextT t)).2.2.1 = true then [(rcontrT (nextT t)).2.1] else [], 0)
/-! The parts -/
theorem inn_split : ∀ (l : List TermT) (a : Nat) (i : Int),
  (innL l a i = -1 ∧ advL l a = none ∧ (∀ t, nextL l a t = t) ∧ (∀ b, rbTs b l a = none) ∧ ∀ x ∈ l.take a, resT x = true) ∨
  ∃ pre x post, l = pre ++ x :: post ∧ innL l a i = i + (pre.length : Int) ∧ resT x = false ∧ pre.length < a ∧ (∀ y ∈ pre, resT y = true) ∧ advL l a = some (pre ++ (advT x).1 :: post, (advT x).2) ∧ (∀ t, nextL l a t = nextT x) ∧ ∀ b, rbTs b l a = some (pre ++ rbT b x :: post)
 | [], a, i => .inl ⟨by rw [innL], by rw [advL], fun t => by rw [nextL], fun b => by rw [rbTs], fun x hx => by simp at hx⟩
 | y :: r, 0, i => .inl ⟨by rw [innL], by rw [advL], fun t => by rw [nextL], fun b => by rw [rbTs], fun x hx => by simp at hx⟩
 | y :: r, a + 1, i => by
   cases hy : resT y with
   | false =>
     refine .inr ⟨[], y, r, rfl, ?_, hy, by simp, fun _ h => by simp at h, ?_, fun t => ?_, fun b => ?_⟩
     ·rw [innL, if_neg (by rw [hy]; decide)]; simp
     ·rw [advL, if_neg (by rw [hy]; decide)]; rfl
     ·rw [nextL, if_neg (by rw [hy]; decide)]
     ·rw [rbTs, if_neg (by rw [hy]; decide)]; rfl
   | true =>
     rcases inn_split r a (i + 1) with ⟨h1, h2, h3, h4, h5⟩ | ⟨pre, x, post, h1, h2, h3, h4, h5, h6, h7, h8⟩
     ·refine .inl ⟨?_, ?_, fun t => ?_, fun b => ?_, fun x hx => ?_⟩
      ·rw [innL, if_pos hy]; exact h1
      ·rw [advL, if_pos hy, h2]; rfl
      ·rw [nextL, if_pos hy]; exact h3 t
      ·rw [rbTs, if_pos hy, h4]; rfl
      ·rw [List.take_succ_cons, List.mem_cons] at hx
       rcases hx with rfl | hx
       ·exact hy
       ·exact h5 x hx
     ·refine .inr ⟨y :: pre, x, post, by rw [h1]; rfl, ?_, h3, by simp; omega, fun z hz => ?_, ?_, fun t => ?_, fun b => ?_⟩
      ·rw [innL, if_pos hy, h2, List.length_cons]; omega
      ·rcases List.mem_cons.1 hz with rfl | hz
       ·exact hy
       ·exact h5 z hz
      ·rw [advL, if_pos hy, h6]; rfl
      ·rw [nextL, if_pos hy]; exact h7 t
      ·rw [rbTs, if_pos hy, h8]; rfl
theorem adv_next (t : TermT) : (advT t).2.2 = (if (nextT t).op = 19 then 7 else (contrT (nextT t)).2.2) ∧ ((advT t).2.2 = 0 → advT t = (rbT (contrT (nextT t)).1 t, (contrT (nextT t)).2.1, 0)) := by
 revert t
 refine TermT.ind1 fun op n s con to k names l ih => ?_
 rw [nextT, advT]
 rcases inn_split l (actT op l.length) 0 with ⟨_, h2, h3, h4, _⟩ | ⟨pre, x, post, h1, _, _, _, _, h6, h7, h8⟩
 ·rw [h2, h3]
  simp only [rbT, h4]
  by_cases e : op = 19
  ·subst e
   simp only [TermT.op, if_true]
   exact ⟨trivial, fun h => by cases h⟩
  ·simp only [TermT.op, if_neg e]
   refine ⟨by first | trivial | (rw [if_neg (show ¬ (TermT.mk op n s con to k names l).op = 19 from e)]) | simp [e], fun h => ?_⟩
   generalize contrT (TermT.mk op n s con to k names l) = c at h ⊢
   obtain ⟨a, b, c⟩ := c
   simp only at h
   subst h
   rfl
 ·obtain ⟨i1, i2⟩ := ih x (by rw [h1]; simp)
  rw [h6, h7]
  simp only [rbT, h8]
  by_cases e : (advT x).2.2 = 0
  ·have := i2 e
   rw [if_neg (fun h => h e)]
   rw [e] at i1
   refine ⟨i1, fun _ => ?_⟩
   rw [this]
  ·rw [if_pos e]
   exact ⟨i1, fun h => absurd h e⟩
theorem wtT_pos (t : TermT) : 1 ≤ wtT t := by cases t; rw [wtT]; omega
mutual
theorem sub_mono (b : TermT) : ∀ (t : TermT) (u w left depth left' depth' : Int), vokT t → (measT (qbm b t u w) left depth).2 = true → left ≤ left' → depth' ≤ depth →
  (measT t left' depth').2 = true ∧ (measT t left' depth').1 ≤ (measT (qbm b t u w) left depth).1
 | .mk op n s con to k names l, u, w, left, depth, left', depth', hv, h, h1, h2 => by
   rw [vokT] at hv
   by_cases ho : op = 1
   ·have hn := hv.1 ho
    have hp := wtT_pos (qbm b (.mk op n s con to k names l) u w)
    have hw := measT_wt _ _ _ h
    have hl : ¬ (left ≤ 0 ∨ depth > 400) := by
     generalize qbm b (.mk op n s con to k names l) u w = r at h
     cases r
     rw [measT] at h
     split at h
     ·cases h
     ·rename_i g; exact fun e => g (e.elim .inl fun e => .inr (.inl e))
    obtain ⟨rfl, rfl, rfl, rfl, rfl, g, _⟩ := qbh hn ho
    have := List.eq_nil_of_length_eq_zero g
    subst this ho
    rw [meas_leaf hn (by decide), if_neg (by rintro (e | e); exact hl (.inl (by omega)); exact hl (.inr (by omega)))]
    refine ⟨decide_eq_true (by have : ¬ left ≤ 0 := fun e => hl (.inl e); omega), ?_⟩
    simp only
    omega
   ·rw [qbm, if_neg ho] at h ⊢
    rw [measT, rsubTL_len] at h
    rw [measT, measT, rsubTL_len]
    by_cases e : left ≤ 0 ∨ depth > 400 ∨ qbw op n s con to k names l.length = false
    ·rw [if_pos e] at h; cases h
    ·rw [if_neg e] at h ⊢
     rw [if_neg (by rintro (g | g | g); exact e (.inl (by omega)); exact e (.inr (.inl (by omega))); exact e (.inr (.inr g)))]
     exact sub_monoL b op l 0 u w left _ depth left' _ depth' hv.2 h h1 (Int.le_refl _) h2
theorem sub_monoL (b : TermT) (op : Int) : ∀ (l : List TermT) (i : Nat) (u w left m depth left' m' depth' : Int), vokL l → (measTL (qct b op l i u w) left m depth).2 = true → left ≤ left' → m' ≤ m → depth' ≤ depth →
  (measTL l left' m' depth').2 = true ∧ (measTL l left' m' depth').1 ≤ (measTL (qct b op l i u w) left m depth).1
 | [], i, u, w, left, m, depth, left', m', depth', hv, h, h1, h2, h3 => by
   rw [qct, measTL] at h ⊢
   rw [measTL]
   have := of_decide_eq_true h
   exact ⟨decide_eq_true (by omega), h2⟩
 | x :: r, i, u, w, left, m, depth, left', m', depth', hv, h, h1, h2, h3 => by
   rw [qct, measTL] at h ⊢
   rw [measTL]
   by_cases e : (measT (qbm b x (u + qat op i) (w + qam op i)) (left - m) (depth + 1)).2 = false
   ·rw [if_pos e] at h; cases h
   ·have e' : (measT (qbm b x (u + qat op i) (w + qam op i)) (left - m) (depth + 1)).2 = true := by simpa using e
    obtain ⟨g1, g2⟩ := sub_mono b x _ _ _ _ (left' - m') (depth' + 1) hv.1 e' (by omega) (by omega)
    rw [if_neg e] at h ⊢
    rw [if_neg (by rw [g1]; decide)]
    exact sub_monoL b op r (i + 1) u w left _ depth left' _ depth' hv.2 h h1 (by omega) h3
end
theorem sub_invalid {b t : TermT} (hv : vokT t) (h : qab t = false) : qab (qbm b t 0 0) = false := by
 cases e : qab (qbm b t 0 0) with
 | false => rfl
 | true =>
   have := (sub_mono b t 0 0 20000 1 20000 1 hv e (Int.le_refl _) (Int.le_refl _)).1
   rw [qab] at h
   rw [h] at this; cases this
/-! Parts of a term that is right -/
mutual
theorem wf_wc : ∀ t : TermT, wfT t = true → wcT t
 | .mk op n s con to k names l, h => by
   rw [wfT, Bool.and_eq_true] at h
   obtain ⟨n1, n2, n3, n4⟩ := qbi h.1
   rw [wcT]
   refine ⟨?_, ?_, wfL_wc l h.2⟩
   ·by_cases e : qad op = true
    ·exact (qdz (n1 e)).2
    ·rw [n2 (by simpa using e)]; decide
   ·by_cases e : op = 8
    ·exact (qdz (n3 e)).2
    ·rw [n4 e]; decide
theorem wfL_wc : ∀ l : List TermT, wfL l = true → wcTs l
 | [], _ => trivial
 | x :: r, h => by
   rw [wfL, Bool.and_eq_true] at h
   exact ⟨wf_wc x h.1, wfL_wc r h.2⟩
end
theorem vlen {t : TermT} (h : qab t = true) : (t.l.length : Int) = qb5 t.op t.n t.names.length := by
 obtain ⟨op, n, s, con, to, k, names, l⟩ := t
 have := (qae h).1
 rw [wfT, Bool.and_eq_true] at this
 exact (qc5 this.1).2.2.2.1
theorem vnode {t : TermT} (h : qab t = true) : qbw t.op t.n t.s t.con t.to t.k t.names t.l.length = true := by
 obtain ⟨op, n, s, con, to, k, names, l⟩ := t
 have := (qae h).1
 rw [wfT, Bool.and_eq_true] at this
 exact this.1
theorem vpart {t : TermT} (h : qab t = true) : ∀ x ∈ t.l, qab x = true := by
 obtain ⟨op, n, s, con, to, k, names, l⟩ := t
 exact qbl h
theorem hd_mem {l : List TermT} (h : 0 < l.length) : hdT l ∈ l := by
 cases l with
 | nil => cases h
 | cons x r => simp [hdT]
theorem qds {l : List TermT} (h : 1 < l.length) : sndT l ∈ l := by
 cases l with
 | nil => cases h
 | cons x r =>
   cases r with
   | nil => simp at h
   | cons y r => simp [sndT, hdT]
theorem lastD_mem : ∀ (r : List TermT) (x : TermT), r.getLastD x ∈ x :: r
 | [], x => by simp [List.getLastD]
 | y :: r, x => by rw [List.getLastD_cons]; exact List.mem_cons_of_mem _ (lastD_mem r y)
theorem last_mem {l : List TermT} (h : 0 < l.length) : qcg l ∈ l := by
 cases l with
 | nil => cases h
 | cons x r => rw [qcg, List.getLastD_cons]; exact lastD_mem r x
theorem getD_mem {l : List TermT} {i : Nat} (h : i < l.length) : l.getD i zeroT ∈ l := by
 simp [List.getD, h]
theorem len1 {t : TermT} (h : qab t = true) (ho : t.op = 4 ∨ t.op = 6 ∨ t.op = 7 ∨ t.op = 8 ∨ t.op = 11 ∨ t.op = 12 ∨ t.op = 14 ∨ t.op = 15 ∨ t.op = 16) : t.l.length = 1 := by
 have := vlen h
 rw [qb5, if_neg (by omega), if_pos (by omega)] at this
 omega
theorem len2 {t : TermT} (h : qab t = true) (ho : t.op = 5 ∨ t.op = 9 ∨ t.op = 17) : t.l.length = 2 := by
 have := vlen h
 rw [qb5, if_neg (by omega), if_neg (by omega), if_pos (by omega)] at this
 omega
theorem len10 {t : TermT} (h : qab t = true) (ho : t.op = 10) : t.l.length = t.names.length := by
 have := vlen h
 rw [qb5, if_neg (by omega), if_neg (by omega), if_neg (by omega), if_pos ho] at this
 omega
theorem len13 {t : TermT} (h : qab t = true) (ho : t.op = 13) : t.l.length = t.names.length + 1 := by
 have := vlen h
 rw [qb5, if_neg (by omega), if_neg (by omega), if_neg (by omega), if_neg (by omega), if_pos ho] at this
 omega
theorem len18 {t : TermT} (h : qab t = true) (ho : t.op = 18) : (t.l.length : Int) = arityF t.n := by
 have := vlen h
 rw [qb5, if_neg (by omega), if_neg (by omega), if_neg (by omega), if_neg (by omega), if_neg (by omega), if_pos ho] at this
 exact this
theorem qau {t : TermT} (h : qab t = true) (ho : t.op = 4 ∨ t.op = 6 ∨ t.op = 7 ∨ t.op = 8 ∨ t.op = 11 ∨ t.op = 12 ∨ t.op = 14 ∨ t.op = 15 ∨ t.op = 16) : qab (hdT t.l) = true :=
 vpart h _ (hd_mem (by rw [len1 h ho]; decide))
theorem vcon {t : TermT} (h : qab t = true) (ho : qad t.op = true) : qac t.con = true := (qbi (vnode h)).1 ho
theorem find_lt : ∀ (l : List ByteArray) (s : ByteArray) (i : Int), 0 ≤ i → 0 ≤ findS l s i → i ≤ findS l s i ∧ findS l s i < i + l.length
 | [], s, i, hi, h => by rw [findS] at h; omega
 | x :: r, s, i, hi, h => by
   rw [findS] at h ⊢
   split
   ·rw [List.length_cons]; omega
   ·rename_i e
    rw [if_neg e] at h
    have := find_lt r s (i + 1) (by omega) h
    rw [List.length_cons]; omega
/-! Both contractions -/
theorem kept_or (a : TermT) : ((keptT a).2 = 0 ∧ (keptT a).1 = a ∧ qab a = true) ∨ ((keptT a).2 = 6 ∧ (keptT a).1 = zeroT ∧ qab a = false) := by
 rw [keptT]
 cases h : qab a with
 | true => exact .inl ⟨rfl, rfl, rfl⟩
 | false => exact .inr ⟨rfl, rfl, rfl⟩
theorem sub_both {x b : TermT} (hx : qab x = true) (hb : qab b = true) : SubstT x b = keptT (qbm b x 0 0) := by
 rw [SubstT_M hx hb, rsub_map b (qae hb).1 x 0 0 (qae hx).1, subM]
theorem subC_both {x : TermT} {c : ConT} (hx : qab x = true) (hc : qac c = true) : SubstConsT x [c] = keptT (qdm [c] x 0) := by
 have hall : [c].all qac = true := by simp [hc]
 rw [SubstConsT_M hx hall (by simp), rsubC_map [c] hall x 0 0 (qae hx).1, subCM]
def agree (c : TermT × Int) (r : TermT) : Prop := c = (r, 0) ∨ (c.2 = 6 ∧ qab r = false)
theorem agree_kept (a : TermT) : agree (keptT a) a := by
 rcases kept_or a with ⟨h1, h2, _⟩ | ⟨h1, _, h3⟩
 ·exact .inl (Prod.ext h2 h1)
 ·exact .inr ⟨h1, h3⟩
theorem agree_in {a : TermT} (f : TermT → TermT) (hf : ∀ x, qab x = false → qab (f x) = false) : agree (f (keptT a).1, (keptT a).2) (f a) := by
 rcases kept_or a with ⟨h1, h2, _⟩ | ⟨h1, _, h3⟩
 ·rw [h1, h2]; exact .inl rfl
 ·exact .inr ⟨h1, hf _ h3⟩
theorem contrN_both {op n : Int} {s : ByteArray} {con to : ConT} {k : List KindT} {names : List ByteArray} {l : List TermT} (h : qab (.mk op n s con to k names l) = true) (h18 : op ≠ 18) (hl : 0 < l.length) :
  (qax op s con names l = none ∧ qbj op s con names l = (zeroT, 23)) ∨ ∃ r, qax op s con names l = some r ∧ agree (qbj op s con names l) r := by
 have hp := qbl h
 have hv := hp _ (hd_mem hl)
 by_cases h5 : op = 5
 ·have hw := hp _ (qds (by rw [show l.length = 2 from len2 h (.inl h5)]; decide))
  simp only [qax, qbj, if_pos h5, applT]
  by_cases e1 : (hdT l).op = 4
  ·rw [if_pos e1, if_pos e1, sub_both (qau hv (.inl e1)) hw]
   exact .inr ⟨_, rfl, agree_kept _⟩
  ·rw [if_neg e1, if_neg e1]
   by_cases e2 : (hdT l).op = 16 ∧ (hdT (hdT l).l).op = 4
   ·rw [if_pos e2, if_pos e2, sub_both (qau hv (by omega)) hv]
    refine .inr ⟨_, rfl, agree_in (fun x => nodeL 5 [x, sndT l]) fun x hx => ?_⟩
    cases g : qab (nodeL 5 [x, sndT l]) with
    | false => rfl
    | true => have := vpart g x (by simp [nodeL, TermT.l]); rw [hx] at this; cases this
   ·rw [if_neg e2, if_neg e2]; exact .inl ⟨rfl, rfl⟩
 ·by_cases h7 : op = 7
  ·have hc : qac con = true := (qbi (vnode h)).1 (show qad op = true by rw [h7]; decide)
   simp only [qax, qbj, if_neg h5, if_pos h7, instT]
   by_cases e1 : (hdT l).op = 6
   ·rw [if_pos e1, if_pos e1, subC_both (qau hv (.inr (.inl e1))) hc]
    exact .inr ⟨_, rfl, agree_kept _⟩
   ·rw [if_neg e1, if_neg e1]
    by_cases e2 : (hdT l).op = 16 ∧ (hdT (hdT l).l).op = 6
    ·rw [if_pos e2, if_pos e2, sub_both (qau hv (by omega)) hv]
     refine .inr ⟨_, rfl, agree_in (fun x => tappT con x) fun x hx => ?_⟩
     cases g : qab (tappT con x) with
     | false => rfl
     | true => have := vpart g x (by simp [tappT, TermT.l]); rw [hx] at this; cases this
    ·rw [if_neg e2, if_neg e2]; exact .inl ⟨rfl, rfl⟩
  ·by_cases h17 : op = 17
   ·have hw := hp _ (qds (by rw [show l.length = 2 from len2 h (.inr (.inr h17))]; decide))
    subst h17
    have hr : qax 17 s con names l = some (qbm (hdT l) (sndT l) 0 0) := rfl
    have hcn : qbj 17 s con names l = SubstT (sndT l) (hdT l) := by rw [qbj, if_neg (by decide), if_neg (by decide), if_pos rfl]
    rw [hr, hcn, sub_both hw hv]
    exact .inr ⟨_, rfl, agree_kept _⟩
   ·by_cases h9 : op = 9
    ·have hw := hp _ (qds (by rw [show l.length = 2 from len2 h (.inr (.inl h9))]; decide))
     subst h9
     have hr : qax 9 s con names l = if (hdT l).op = 8 then some (qbm (hdT (hdT l).l) (qdm [(hdT l).con] (sndT l) 0) 0 0) else none := rfl
     rw [hr]
     by_cases e1 : (hdT l).op = 8
     ·rw [if_pos e1, qbj, if_neg (by decide), if_neg (by decide), if_neg (by decide), if_pos ⟨rfl, e1⟩]
      have hc := vcon hv (by rw [e1]; decide)
      have hi := qau hv (by omega)
      rw [subC_both hw hc]
      refine .inr ⟨_, rfl, ?_⟩
      rcases kept_or (qdm [(hdT l).con] (sndT l) 0) with ⟨g1, g2, g3⟩ | ⟨g1, g2, g3⟩
      ·rw [if_pos g1, g2, sub_both g3 hi]; exact agree_kept _
      ·rw [if_neg (by rw [g1]; decide)]
       exact .inr ⟨g1, sub_invalid (vok_rsubC _ _ 0 (wf_vok _ (qae hw).1)) g3⟩
     ·rw [if_neg e1, qbj, if_neg (by decide), if_neg (by decide), if_neg (by decide), if_neg (fun h => e1 h.2), if_neg (fun h => absurd h.1 (by decide)), if_neg (fun h => absurd h.1 (by decide)), if_neg (fun h => absurd h.1 (by decide))]
      exact .inl ⟨rfl, rfl⟩
    ·by_cases h11 : op = 11
     ·subst h11
      have hr : qax 11 s con names l = if (hdT l).op = 10 ∧ 0 ≤ findS (hdT l).names s 0 then some ((hdT l).l.getD (findS (hdT l).names s 0).toNat zeroT) else none := rfl
      rw [hr]
      by_cases e1 : (hdT l).op = 10 ∧ 0 ≤ findS (hdT l).names s 0
      ·rw [if_pos e1, qbj, if_neg (by decide), if_neg (by decide), if_neg (by decide), if_neg (fun h => absurd h.1 (by decide)), if_pos ⟨rfl, e1⟩]; exact .inr ⟨_, rfl, .inl rfl⟩
      ·rw [if_neg e1, qbj, if_neg (by decide), if_neg (by decide), if_neg (by decide), if_neg (fun h => absurd h.1 (by decide)), if_neg (fun h => e1 h.2), if_neg (fun h => absurd h.1 (by decide)), if_neg (fun h => absurd h.1 (by decide))]; exact .inl ⟨rfl, rfl⟩
     ·by_cases h13 : op = 13
      ·have hll : l.length = names.length + 1 := len13 h h13
       subst h13
       have hr : qax 13 s con names l = if (hdT l).op = 12 ∧ 0 ≤ findS names (hdT l).s 0 then some (qbm (hdT (hdT l).l) (l.getD ((findS names (hdT l).s 0).toNat + 1) zeroT) 0 0) else none := rfl
       rw [hr]
       by_cases e1 : (hdT l).op = 12 ∧ 0 ≤ findS names (hdT l).s 0
       ·have hf := find_lt names (hdT l).s 0 (Int.le_refl _) e1.2
        have hm := hp _ (getD_mem (l := l) (i := (findS names (hdT l).s 0).toNat + 1) (by omega))
        rw [if_pos e1, qbj, if_neg (by decide), if_neg (by decide), if_neg (by decide), if_neg (fun h => absurd h.1 (by decide)), if_neg (fun h => absurd h.1 (by decide)), if_pos ⟨rfl, e1⟩, sub_both hm (qau hv (by omega))]
        exact .inr ⟨_, rfl, agree_kept _⟩
       ·rw [if_neg e1, qbj, if_neg (by decide), if_neg (by decide), if_neg (by decide), if_neg (fun h => absurd h.1 (by decide)), if_neg (fun h => absurd h.1 (by decide)), if_neg (fun h => e1 h.2), if_neg (fun h => absurd h.1 (by decide))]; exact .inl ⟨rfl, rfl⟩
      ·by_cases h15 : op = 15
       ·subst h15
        have hr : qax 15 s con names l = if (hdT l).op = 14 then some (hdT (hdT l).l) else none := rfl
        rw [hr]
        by_cases e1 : (hdT l).op = 14
        ·rw [if_pos e1, qbj, if_neg (by decide), if_neg (by decide), if_neg (by decide), if_neg (fun h => absurd h.1 (by decide)), if_neg (fun h => absurd h.1 (by decide)), if_neg (fun h => absurd h.1 (by decide)), if_pos ⟨rfl, e1⟩]; exact .inr ⟨_, rfl, .inl rfl⟩
        ·rw [if_neg e1, qbj, if_neg (by decide), if_neg (by decide), if_neg (by decide), if_neg (fun h => absurd h.1 (by decide)), if_neg (fun h => absurd h.1 (by decide)), if_neg (fun h => absurd h.1 (by decide)), if_neg (fun h => e1 h.2)]; exact .inl ⟨rfl, rfl⟩
       ·have hr : qax op s con names l = none := by rw [qax, if_neg h5, if_neg h7, if_neg h9, if_neg h11, if_neg h13, if_neg h15, if_neg h17]
        have hcn : qbj op s con names l = (zeroT, 23) := by rw [qbj, if_neg h5, if_neg h7, if_neg h17, if_neg (fun h => h9 h.1), if_neg (fun h => h11 h.1), if_neg (fun h => h13 h.1), if_neg (fun h => h15 h.1)]
        rw [hr, hcn]
        exact .inl ⟨rfl, rfl⟩
theorem contr_both {t : TermT} (h : qab t = true) :
  ((rcontrT t).2.2.2 = false ∧ (contrT t).2.2 = 23) ∨
  ((rcontrT t).2.2.2 = true ∧ contrT t = ((rcontrT t).1, if (rcontrT t).2.2.1 = true then [(rcontrT t).2.1] else [], 0)) ∨
  ((rcontrT t).2.2.2 = true ∧ (contrT t).2.2 = 6 ∧ qab (rcontrT t).1 = false) := by
 obtain ⟨op, n, s, con, to, k, names, l⟩ := t
 rw [rcontrT, contrT]
 by_cases h18 : op = 18
 ·rw [if_pos h18, if_pos h18, rprimT, operT]
  by_cases e : l.any (fun x => x.op != qdl n) = true
  ·rw [if_pos e, if_pos e]; exact .inl ⟨rfl, rfl⟩
  ·rw [if_neg e, if_neg e]
   by_cases e1 : qco n = true
   ·rw [if_pos e1, if_pos e1]
    by_cases e2 : n = 14
    ·rw [if_pos e2, qci, if_neg (by omega), if_neg (by omega), if_neg (by omega)]
     exact .inr (.inl ⟨rfl, rfl⟩)
    ·rw [if_neg e2]
     have : (qci n (hdT l).s (qcg l).s).2 = [] := by
      simp only [qco, Bool.or_eq_true, beq_iff_eq] at e1
      rw [qci]
      split
      ·rfl
      ·split
       ·rfl
       ·rw [if_pos (by omega)]
     rw [this]
     exact .inr (.inl ⟨rfl, rfl⟩)
   ·rw [if_neg e1, if_neg e1]; exact .inr (.inl ⟨rfl, rfl⟩)
 ·rw [if_neg h18, if_neg h18]
  by_cases ha : actT op l.length = 0
  ·rw [if_pos (.inl ha), if_pos ha]; exact .inl ⟨rfl, rfl⟩
  ·have hl : 0 < l.length := by
    cases l with
    | cons x r => simp
    | nil =>
      exfalso
      have hv := vlen h
      have h3 : qdx op names = true := (qc5 (vnode h)).2.2.2.2.2.1
      simp only [TermT.l, TermT.op, TermT.n, TermT.names, List.length_nil] at hv
      by_cases g : op = 5 ∨ op = 10 ∨ op = 18
      ·rw [actT, if_pos g] at ha; exact ha rfl
      ·rw [actT, if_neg g] at ha
       by_cases g2 : op = 7 ∨ op = 8 ∨ op = 9 ∨ op = 11 ∨ op = 12 ∨ op = 13 ∨ op = 14 ∨ op = 15 ∨ op = 17
       ·rw [qb5, if_neg (by omega)] at hv
        repeat' split at hv
        all_goals omega
       ·rw [if_neg g2] at ha; exact ha rfl
   rw [if_neg (by rintro (e | e); exact ha e; rw [e] at hl; cases hl), if_neg ha]
   rcases contrN_both h h18 hl with ⟨g1, g2⟩ | ⟨r, g1, g2 | ⟨g2, g3⟩⟩
   ·rw [g1, g2]; exact .inl ⟨rfl, rfl⟩
   ·rw [g1, g2]; exact .inr (.inl ⟨rfl, rfl⟩)
   ·rw [g1]; exact .inr (.inr ⟨rfl, g2, g3⟩)
/-! The next node -/
theorem next_valid (t : TermT) (h : qab t = true) (hok : okT t) : qab (nextT t) = true ∧ okT (nextT t) := by
 revert t
 refine TermT.ind1 fun op n s con to k names l ih => ?_
 intro h hok
 rw [nextT]
 rcases inn_split l (actT op l.length) 0 with ⟨_, _, h3, _⟩ | ⟨pre, x, post, h1, _, _, _, _, _, h7, _⟩
 ·rw [h3]; exact ⟨h, hok⟩
 ·rw [h7]
  have hm : x ∈ l := by rw [h1]; simp
  exact ih x hm (qbl h x hm) (okTs_mem.1 (qbo hok).2.2.2 x hm)
theorem reb_inv {b : TermT} : ∀ t : TermT, qab (rbT b t) = true → qab b = true := by
 refine TermT.ind1 fun op n s con to k names l ih => ?_
 intro h
 rw [rbT] at h
 rcases inn_split l (actT op l.length) 0 with ⟨_, _, _, h4, _⟩ | ⟨pre, x, post, h1, _, _, _, _, _, _, h8⟩
 ·rw [h4] at h; exact h
 ·rw [h8] at h
  exact ih x (by rw [h1]; simp) (qbl h _ (by simp))
theorem step_eq {t : TermT} (hok : okT t) : qak t = qcf t := by
 rw [qak, qcf]
 by_cases h1 : qan t = false
 ·rw [if_pos h1, if_pos h1]
 ·rw [if_neg h1, if_neg h1]
  have hv : qab t = true := by
   cases g : qab t with
   | true => rfl
   | false => rw [qan, g] at h1; exact absurd rfl h1
  by_cases h2 : resT t = true
  ·rw [if_pos h2, if_pos (.inl h2)]
  ·obtain ⟨hn, hnok⟩ := next_valid t hv hok
   rw [if_neg h2]
   obtain ⟨a1, a2⟩ := adv_next t
   by_cases h3 : (nextT t).op = 19
   ·have hN : (nextT t).n ≥ 1 := by
     have := (qc5 (vnode hn)).2.2.1
     rw [h3, numT, if_neg (by decide), if_neg (by decide), if_neg (by decide), if_pos rfl] at this
     simp only [Bool.and_eq_true, decide_eq_true_eq] at this
     exact this.1
    rw [if_pos (.inr (by rw [failN, if_neg h2, if_pos h3]; omega)), stepR]
    rw [if_pos h3] at a1
    rw [a1, if_pos (by decide)]
   ·rw [if_neg (by rintro (e | e); exact h2 e; rw [failN, if_neg h2, if_neg h3] at e; omega), stepR]
    rw [if_neg h3] at a1
    rcases contr_both hn with ⟨b1, b2⟩ | ⟨b1, b2⟩ | ⟨b1, b2, b3⟩
    ·rw [a1, b2, if_pos b1, if_pos (by decide)]
    ·have e0 : (advT t).2.2 = 0 := by rw [a1, b2]
     rw [a2 e0, b2]
     rw [if_neg (show ¬ (rbT (rcontrT (nextT t)).1 t, (if (rcontrT (nextT t)).2.2.1 = true then [(rcontrT (nextT t)).2.1] else [] : List ByteArray), (0 : Int)).2.2 ≠ 0 from fun h => h rfl)]
     rw [if_neg (show ¬ (rcontrT (nextT t)).2.2.2 = false by rw [b1]; decide)]
    ·rw [a1, b2, if_pos (show (6 : Int) ≠ 0 by decide), if_neg (show ¬ (rcontrT (nextT t)).2.2.2 = false by rw [b1]; decide)]
     have : qab (rbT (rcontrT (nextT t)).1 t) = false := by
      cases g : qab (rbT (rcontrT (nextT t)).1 t) with
      | false => rfl
      | true => rw [reb_inv t g] at b3; cases b3
     rw [if_pos this]
/-! Constructors under binders -/
mutual
def bndC : ConT → Int → Prop
 | .mk op n _ _ _ l, u => if op = 1 then n < u else if op = 2 then True else bndL l (if qai op = true then u + 1 else u)
def bndL : List ConT → Int → Prop
 | [], _ => True
 | x :: r, u => bndC x u ∧ bndL r u
end
mutual
theorem bnd_leaves (u : Int) : ∀ (c : ConT) (b : Int), bndC c (b + u) ↔ ∀ x b', (x, b') ∈ leaves c b → x.op = 1 → x.n < b' + u
 | .mk op n s k names l, b => by
   rw [bndC, leaves]
   by_cases h1 : op = 1
   ·rw [if_pos h1, if_pos (.inl h1)]
    constructor
    ·intro h x b' hx _
     simp only [List.mem_singleton, Prod.mk.injEq] at hx
     obtain ⟨rfl, rfl⟩ := hx
     exact h
    ·intro h
     exact h (.mk op n s k names l) b (by simp) h1
   ·rw [if_neg h1]
    by_cases h2 : op = 2
    ·rw [if_pos h2, if_pos (.inr h2)]
     refine ⟨fun _ x b' hx ho => ?_, fun _ => trivial⟩
     simp only [List.mem_singleton, Prod.mk.injEq] at hx
     obtain ⟨rfl, rfl⟩ := hx
     exact absurd ho h1
    ·rw [if_neg h2, if_neg (show ¬ (op = 1 ∨ op = 2) from fun e => e.elim h1 h2)]
     have := bnd_leavesL u l (if qai op = true then b + 1 else b)
     rw [← this]
     by_cases e : qai op = true
     ·simp only [if_pos e]
      rw [show b + u + 1 = b + 1 + u by omega]
     ·simp only [if_neg e]
theorem bnd_leavesL (u : Int) : ∀ (l : List ConT) (b : Int), bndL l (b + u) ↔ ∀ x b', (x, b') ∈ leavesL l b → x.op = 1 → x.n < b' + u
 | [], b => by rw [bndL, leavesL]; simp
 | y :: r, b => by
   rw [bndL, leavesL, bnd_leaves u y b, bnd_leavesL u r b]
   constructor
   ·rintro ⟨h1, h2⟩ x b' hx
    rcases List.mem_append.1 hx with hx | hx
    ·exact h1 x b' hx
    ·exact h2 x b' hx
   ·intro h
    exact ⟨fun x b' hx => h x b' (List.mem_append_left _ hx), fun x b' hx => h x b' (List.mem_append_right _ hx)⟩
end
theorem above_bnd {c : ConT} (h : qac c = true) {u : Int} (hu : 0 ≤ u) : qbd (qd3 c) u = [] ↔ bndC c u := by
 have := bnd_leaves u c 0
 rw [Int.zero_add] at this
 rw [this, List.eq_nil_iff_forall_not_mem]
 constructor
 ·intro g x b' hx ho
  by_cases e : x.n < b' + u
  ·exact e
  ·exact absurd (mem_aboveF h hu |>.2 ⟨x, b', hx, ho, by omega, rfl⟩) (g _)
 ·intro g i hi
  obtain ⟨x, b, h1, h2, h3, _⟩ := (mem_aboveF h hu).1 hi
  have := g x b h1 h2
  omega
mutual
theorem bnd_mono {u v : Int} (h : u ≤ v) : ∀ c : ConT, bndC c u → bndC c v
 | .mk op n s k names l, hb => by
   rw [bndC] at hb ⊢
   by_cases h1 : op = 1
   ·rw [if_pos h1] at hb ⊢; omega
   ·rw [if_neg h1] at hb ⊢
    by_cases h2 : op = 2
    ·rw [if_pos h2]; trivial
    ·rw [if_neg h2] at hb ⊢
     exact bnd_monoL (by split <;> omega) l hb
theorem bnd_monoL {u v : Int} (h : u ≤ v) : ∀ l : List ConT, bndL l u → bndL l v
 | [], _ => trivial
 | x :: r, hb => ⟨bnd_mono h x hb.1, bnd_monoL h r hb.2⟩
end
mutual
theorem bnd_shift (n : Int) : ∀ (c : ConT) (u : Int), formedF c = true → bndC c u → mapF (qaf n 0) c u = c
 | .mk op m s k names l, u, hf, hb => by
   rw [bndC] at hb
   rw [mapF]
   by_cases h1 : op = 1
   ·rw [if_pos h1] at hb
    rw [if_pos (.inl h1), shift_lo (x := .mk op m s k names l) (by rintro ⟨_, g⟩; simp only [ConT.n] at g; omega)]
    exact leafC_formed (.inl h1) hf
   ·rw [if_neg h1] at hb
    by_cases h2 : op = 2
    ·rw [if_pos (.inr h2), shift_lo (x := .mk op m s k names l) (by rintro ⟨g, _⟩; exact h1 g)]
     exact leafC_formed (.inr h2) hf
    ·rw [if_neg h2] at hb
     rw [formedF, Bool.and_eq_true] at hf
     rw [if_neg (show ¬ (op = 1 ∨ op = 2) from fun e => e.elim h1 h2), bnd_shiftL n l _ hf.2 hb]
theorem bnd_shiftL (n : Int) : ∀ (l : List ConT) (u : Int), formedL l = true → bndL l u → mapL (qaf n 0) l u = l
 | [], u, _, _ => by rw [mapL]
 | x :: r, u, hf, hb => by
   rw [formedL, Bool.and_eq_true] at hf
   rw [mapL, bnd_shift n x u hf.1 hb.1, bnd_shiftL n r u hf.2 hb.2]
end
mutual
theorem bnd_subst (a : ConT) (ha : formedF a = true) (hb : bndC a 0) : ∀ (c : ConT) (u : Int), 0 ≤ u → bndC c (u + 1) → bndC (mapF (qcq [a]) c u) u
 | .mk op n s k names l, u, hu, hc => by
   rw [bndC] at hc
   rw [mapF]
   by_cases h1 : op = 1
   ·rw [if_pos h1] at hc
    rw [if_pos (.inl h1)]
    by_cases e : n - u < 0
    ·rw [sub_lo (x := .mk op n s k names l) (.inr e)]
     show bndC (.mk op n s k [] []) u
     rw [bndC, if_pos h1]; omega
    ·have e0 : n - u = 0 := by omega
     rw [sub_in (x := .mk op n s k names l) (m := 0) h1 e0 (by decide) (by rw [one_len]; decide)]
     show bndC (mapF (qaf u 0) a 0) u
     rw [bnd_shift u a 0 ha hb]
     exact bnd_mono hu a hb
   ·rw [if_neg h1] at hc
    by_cases h2 : op = 2
    ·rw [if_pos (.inr h2), sub_lo (x := .mk op n s k names l) (.inl h1)]
     show bndC (.mk op n s k [] []) u
     rw [bndC, if_neg h1, if_pos h2]; trivial
    ·rw [if_neg h2] at hc
     rw [if_neg (show ¬ (op = 1 ∨ op = 2) from fun e => e.elim h1 h2), bndC, if_neg h1, if_neg h2]
     by_cases e : qai op = true
     ·simp only [if_pos e] at hc ⊢
      exact bnd_substL a ha hb l (u + 1) (by omega) hc
     ·simp only [if_neg e] at hc ⊢
      exact bnd_substL a ha hb l u hu hc
theorem bnd_substL (a : ConT) (ha : formedF a = true) (hb : bndC a 0) : ∀ (l : List ConT) (u : Int), 0 ≤ u → bndL l (u + 1) → bndL (mapL (qcq [a]) l u) u
 | [], u, _, _ => by rw [mapL]; trivial
 | x :: r, u, hu, hc => by
   rw [mapL]
   exact ⟨bnd_subst a ha hb x u hu hc.1, bnd_substL a ha hb r u hu hc.2⟩
end
/-! Terms under binders -/
mutual
def clTm : TermT → Int → Int → Prop
 | .mk op n _ con to _ _ l, u, w => (qad op = true → bndC con u) ∧ (op = 8 → bndC to u) ∧ (op = 1 → n < w) ∧ clTs op l 0 u w
def clTs (op : Int) : List TermT → Nat → Int → Int → Prop
 | [], _, _, _ => True
 | x :: r, i, u, w => clTm x (u + insC op i) (w + insT op i) ∧ clTs op r (i + 1) u w
end
theorem above_one {n w : Int} : qbd [n] w = [] ↔ n < w := by
 rw [List.eq_nil_iff_forall_not_mem]
 constructor
 ·intro h
  by_cases e : n < w
  ·exact e
  ·exact absurd (mem_above1.2 ⟨by omega, rfl⟩) (h (n - w))
 ·intro h i hi
  have := mem_above1.1 hi
  omega
mutual
theorem cl_iff : ∀ (t : TermT) (u w : Int), wfT t = true → 0 ≤ u → ((consF t u = [] ∧ termsF t w = []) ↔ clTm t u w)
 | .mk op n s con to k names l, u, w, h, hu => by
   rw [wfT, Bool.and_eq_true] at h
   obtain ⟨n1, _, n3, _⟩ := qbi h.1
   rw [consF, termsF, clTm, ← cl_iffL op l 0 u w h.2 hu]
   simp only [List.append_eq_nil_iff]
   have a1 : (if qad op = true then qbd (qd3 con) u else []) = [] ↔ (qad op = true → bndC con u) := by
    by_cases e : qad op = true
    ·rw [if_pos e, above_bnd (n1 e) hu]; exact ⟨fun h _ => h, fun h => h e⟩
    ·rw [if_neg e]; exact ⟨fun _ h => absurd h e, fun _ => rfl⟩
   have a2 : (if op = 8 then qbd (qd3 to) u else []) = [] ↔ (op = 8 → bndC to u) := by
    by_cases e : op = 8
    ·rw [if_pos e, above_bnd (n3 e) hu]; exact ⟨fun h _ => h, fun h => h e⟩
    ·rw [if_neg e]; exact ⟨fun _ h => absurd h e, fun _ => rfl⟩
   have a3 : (if op = 1 then qbd [n] w else []) = [] ↔ (op = 1 → n < w) := by
    by_cases e : op = 1
    ·rw [if_pos e, above_one]; exact ⟨fun h _ => h, fun h => h e⟩
    ·rw [if_neg e]; exact ⟨fun _ h => absurd h e, fun _ => rfl⟩
   rw [a1, a2, a3]
   constructor
   ·rintro ⟨⟨h1, h2, h3⟩, h4, h5⟩; exact ⟨h1, h2, h4, h3, h5⟩
   ·rintro ⟨h1, h2, h4, h3, h5⟩; exact ⟨⟨h1, h2, h3⟩, h4, h5⟩
theorem cl_iffL (op : Int) : ∀ (l : List TermT) (i : Nat) (u w : Int), wfL l = true → 0 ≤ u → ((consL op l i u = [] ∧ qd0 op l i w = []) ↔ clTs op l i u w)
 | [], i, u, w, _, _ => by rw [consL, qd0, clTs]; simp
 | x :: r, i, u, w, h, hu => by
   rw [wfL, Bool.and_eq_true] at h
   rw [consL, qd0, clTs, ← cl_iff x _ _ h.1 (by have := insC_nn op i; omega), ← cl_iffL op r (i + 1) u w h.2 hu]
   simp only [List.append_eq_nil_iff]
   constructor
   ·rintro ⟨⟨h1, h2⟩, h3, h4⟩; exact ⟨⟨h1, h3⟩, h2, h4⟩
   ·rintro ⟨⟨h1, h3⟩, h2, h4⟩; exact ⟨⟨h1, h2⟩, h3, h4⟩
end
theorem sortU_nil0 {l : List Int} : (qar l).length = 0 ↔ l = [] := by
 rw [List.length_eq_zero_iff, List.eq_nil_iff_forall_not_mem, List.eq_nil_iff_forall_not_mem]
 exact ⟨fun h x hx => h x ((qc0 l).2 hx), fun h x hx => h x ((qc0 l).1 hx)⟩
theorem closed_iff {t : TermT} : qan t = true ↔ qab t = true ∧ clTm t 0 0 := by
 rw [qan, Bool.and_eq_true, Bool.and_eq_true, decide_eq_true_iff, decide_eq_true_iff, sortU_nil0, sortU_nil0]
 constructor
 ·rintro ⟨h1, h2⟩; exact ⟨h1, (cl_iff t 0 0 (qae h1).1 (Int.le_refl _)).1 h2⟩
 ·rintro ⟨h1, h2⟩; exact ⟨h1, (cl_iff t 0 0 (qae h1).1 (Int.le_refl _)).2 h2⟩
mutual
theorem cl_mono : ∀ (t : TermT) (u w u' w' : Int), u ≤ u' → w ≤ w' → clTm t u w → clTm t u' w'
 | .mk op n s con to k names l, u, w, u', w', hu, hw, h => by
   rw [clTm] at h ⊢
   exact ⟨fun e => bnd_mono hu con (h.1 e), fun e => bnd_mono hu to (h.2.1 e), fun e => by have := h.2.2.1 e; omega, cl_monoL op l 0 u w u' w' hu hw h.2.2.2⟩
theorem cl_monoL (op : Int) : ∀ (l : List TermT) (i : Nat) (u w u' w' : Int), u ≤ u' → w ≤ w' → clTs op l i u w → clTs op l i u' w'
 | [], _, _, _, _, _, _, _, _ => by rw [clTs]; trivial
 | x :: r, i, u, w, u', w', hu, hw, h => by
   rw [clTs] at h ⊢
   exact ⟨cl_mono x _ _ _ _ (by omega) (by omega) h.1, cl_monoL op r (i + 1) u w u' w' hu hw h.2⟩
end
mutual
theorem cl_shift (n m : Int) : ∀ (t : TermT) (u w : Int), wfT t = true → clTm t u w → mapT (cshM n) (vshM m) t u w = t
 | .mk op i s con to k names l, u, w, h, hc => by
   rw [wfT, Bool.and_eq_true] at h
   obtain ⟨n1, n2, n3, n4⟩ := qbi h.1
   rw [clTm] at hc
   rw [mapT]
   by_cases ho : op = 1
   ·obtain ⟨rfl, rfl, rfl, rfl, rfl, g, _⟩ := qbh h.1 ho
    have := List.eq_nil_of_length_eq_zero g
    subst this ho
    have := hc.2.2.1 rfl
    rw [if_pos rfl, vshM, if_neg (by omega), varT]
   ·rw [if_neg ho, cl_shiftL n m op l 0 u w h.2 hc.2.2.2]
    have hC : (if qad op = true then cshM n con u else zeroC) = con := by
     by_cases e : qad op = true
     ·rw [if_pos e, cshM, bnd_shift n con u (qah (n1 e)) (hc.1 e)]
     ·rw [if_neg e, n2 (by simpa using e)]
    have hT : (if op = 8 then cshM n to u else zeroC) = to := by
     by_cases e : op = 8
     ·rw [if_pos e, cshM, bnd_shift n to u (qah (n3 e)) (hc.2.1 e)]
     ·rw [if_neg e, n4 e]
    rw [hC, hT]
theorem cl_shiftL (n m : Int) (op : Int) : ∀ (l : List TermT) (i : Nat) (u w : Int), wfL l = true → clTs op l i u w → qbx (cshM n) (vshM m) op l i u w = l
 | [], _, _, _, _, _ => by rw [qbx]
 | x :: r, i, u, w, h, hc => by
   rw [wfL, Bool.and_eq_true] at h
   rw [clTs] at hc
   rw [qbx, cl_shift n m x _ _ h.1 hc.1, cl_shiftL n m op r (i + 1) u w h.2 hc.2]
end
theorem cl_var {n u w : Int} (h : n < w) : clTm (varT n) u w := by
 rw [varT, clTm]
 refine ⟨fun e => absurd e (by decide), fun e => absurd e (by decide), fun _ => h, ?_⟩
 rw [clTs]; trivial
mutual
theorem cl_sub (b : TermT) (hwb : wfT b = true) (hb : clTm b 0 0) : ∀ (t : TermT) (u w : Int), 0 ≤ u → 0 ≤ w → clTm t u (w + 1) → clTm (mapT cidM (vsubM b) t u w) u w
 | .mk op n s con to k names l, u, w, hu, hw, h => by
   rw [clTm] at h
   rw [mapT]
   by_cases ho : op = 1
   ·have h1 := h.2.2.1 ho
    rw [if_pos ho, vsubM]
    by_cases e : n = w
    ·rw [if_pos e, shM, cl_shift u w b 0 0 hwb hb]
     exact cl_mono b 0 0 u w hu hw hb
    ·rw [if_neg e, if_neg (by omega)]
     exact cl_var (by omega)
   ·rw [if_neg ho, clTm]
    refine ⟨fun e => ?_, fun e => ?_, fun e => absurd e ho, cl_subL b hwb hb op l 0 u w hu hw h.2.2.2⟩
    ·rw [if_pos e, cidM]; exact h.1 e
    ·rw [if_pos e, cidM]; exact h.2.1 e
theorem cl_subL (b : TermT) (hwb : wfT b = true) (hb : clTm b 0 0) (op : Int) : ∀ (l : List TermT) (i : Nat) (u w : Int), 0 ≤ u → 0 ≤ w → clTs op l i u (w + 1) → clTs op (qbx cidM (vsubM b) op l i u w) i u w
 | [], _, _, _, _, _, _ => by rw [qbx, clTs]; trivial
 | x :: r, i, u, w, hu, hw, h => by
   rw [clTs] at h
   rw [qbx, clTs]
   have := insC_nn op i
   have := insT_nn op i
   refine ⟨cl_sub b hwb hb x _ _ (by omega) (by omega) ?_, cl_subL b hwb hb op r (i + 1) u w hu hw h.2⟩
   rw [show w + insT op i + 1 = w + 1 + insT op i by omega]
   exact h.1
end
mutual
theorem cl_subC (a : ConT) (ha : formedF a = true) (hb : bndC a 0) : ∀ (t : TermT) (u w v : Int), 0 ≤ u → clTm t (u + 1) w → clTm (mapT (csubM [a]) vidM t u v) u w
 | .mk op n s con to k names l, u, w, v, hu, h => by
   rw [clTm] at h
   rw [mapT]
   by_cases ho : op = 1
   ·rw [if_pos ho, vidM]; exact cl_var (h.2.2.1 ho)
   ·rw [if_neg ho, clTm]
    refine ⟨fun e => ?_, fun e => ?_, fun e => absurd e ho, cl_subCL a ha hb op l 0 u w v hu h.2.2.2⟩
    ·rw [if_pos e, csubM]; exact bnd_subst a ha hb con u hu (h.1 e)
    ·rw [if_pos e, csubM]; exact bnd_subst a ha hb to u hu (h.2.1 e)
theorem cl_subCL (a : ConT) (ha : formedF a = true) (hb : bndC a 0) (op : Int) : ∀ (l : List TermT) (i : Nat) (u w v : Int), 0 ≤ u → clTs op l i (u + 1) w → clTs op (qbx (csubM [a]) vidM op l i u v) i u w
 | [], _, _, _, _, _, _ => by rw [qbx, clTs]; trivial
 | x :: r, i, u, w, v, hu, h => by
   rw [clTs] at h
   rw [qbx, clTs]
   have := insC_nn op i
   refine ⟨cl_subC a ha hb x _ _ _ (by omega) ?_, cl_subCL a ha hb op r (i + 1) u w v hu h.2⟩
   rw [show u + insC op i + 1 = u + 1 + insC op i by omega]
   exact h.1
end
theorem cl_part (op : Int) (u w : Int) : ∀ (l : List TermT) (i j : Nat) (x : TermT), clTs op l i u w → l[j]? = some x → clTm x (u + insC op (i + j)) (w + insT op (i + j))
 | [], i, j, x, _, hx => by simp at hx
 | y :: r, i, 0, x, h, hx => by
   rw [clTs] at h
   simp only [List.getElem?_cons_zero, Option.some.injEq] at hx
   subst hx
   exact h.1
 | y :: r, i, j + 1, x, h, hx => by
   rw [clTs] at h
   have := cl_part op u w r (i + 1) j x h.2 (by simpa using hx)
   rw [show i + 1 + j = i + (j + 1) by omega] at this
   exact this
theorem cl_set (op : Int) (u w : Int) (y : TermT) : ∀ (pre : List TermT) (x : TermT) (post : List TermT) (i : Nat), clTs op (pre ++ x :: post) i u w → clTm y (u + insC op (i + pre.length)) (w + insT op (i + pre.length)) → clTs op (pre ++ y :: post) i u w
 | [], x, post, i, h, hy => by
   rw [List.nil_append, clTs] at h ⊢
   exact ⟨hy, h.2⟩
 | z :: pre, x, post, i, h, hy => by
   rw [List.cons_append, clTs] at h ⊢
   refine ⟨h.1, cl_set op u w y pre x post (i + 1) h.2 ?_⟩
   rw [List.length_cons] at hy
   rw [show i + 1 + pre.length = i + (pre.length + 1) by omega]
   exact hy
theorem act_ins {op : Int} {nl j : Nat} (h : j < actT op nl) : insC op j = 0 ∧ insT op j = 0 := by
 rw [actT] at h
 by_cases e : op = 5 ∨ op = 10 ∨ op = 18
 ·constructor
  ·rw [insC, if_neg (by omega), if_neg (by omega)]
  ·rw [insT, if_neg (by omega), if_neg (by omega), if_neg (by omega)]
 ·rw [if_neg e] at h
  by_cases e2 : op = 7 ∨ op = 8 ∨ op = 9 ∨ op = 11 ∨ op = 12 ∨ op = 13 ∨ op = 14 ∨ op = 15 ∨ op = 17
  ·rw [if_pos e2] at h
   have : j = 0 := by omega
   subst this
   constructor
   ·rw [insC, if_neg (by omega)]; split <;> rfl
   ·rw [insT, if_neg (by omega)]
    split
    ·rfl
    ·split <;> rfl
  ·rw [if_neg e2] at h; cases h
theorem next_cl (t : TermT) (h : clTm t 0 0) : clTm (nextT t) 0 0 := by
 revert t
 refine TermT.ind1 fun op n s con to k names l ih => ?_
 intro h
 rw [nextT]
 rcases inn_split l (actT op l.length) 0 with ⟨_, _, h3, _⟩ | ⟨pre, x, post, h1, _, _, h4, _, _, h7, _⟩
 ·rw [h3]; exact h
 ·rw [h7]
  rw [clTm] at h
  obtain ⟨e1, e2⟩ := act_ins h4
  have := cl_part op 0 0 l 0 pre.length x h.2.2.2 (by rw [h1]; simp)
  rw [Nat.zero_add, e1, e2] at this
  exact ih x (by rw [h1]; simp) this
theorem reb_cl {b : TermT} (hb : clTm b 0 0) (t : TermT) (h : clTm t 0 0) : clTm (rbT b t) 0 0 := by
 revert t
 refine TermT.ind1 fun op n s con to k names l ih => ?_
 intro h
 rw [rbT]
 rcases inn_split l (actT op l.length) 0 with ⟨_, _, _, h4, _⟩ | ⟨pre, x, post, h1, _, _, h4, _, _, _, h8⟩
 ·rw [h4]; exact hb
 ·rw [h8]
  rw [clTm] at h
  obtain ⟨e1, e2⟩ := act_ins h4
  have hx := cl_part op 0 0 l 0 pre.length x h.2.2.2 (by rw [h1]; simp)
  rw [Nat.zero_add, e1, e2] at hx
  have hy := ih x (by rw [h1]; simp) hx
  simp only [clTm]
  refine ⟨h.1, h.2.1, h.2.2.1, cl_set op 0 0 _ pre x post 0 (by rw [← h1]; exact h.2.2.2) ?_⟩
  rw [Nat.zero_add, e1, e2]
  exact hy
/-! Sizes -/
theorem okT_reb {b : TermT} (hb : okT b) (t : TermT) (h : okT t) : okT (rbT b t) := by
 revert t
 refine TermT.ind1 fun op n s con to k names l ih => ?_
 intro h
 rw [rbT]
 rcases inn_split l (actT op l.length) 0 with ⟨_, _, _, h4, _⟩ | ⟨pre, x, post, h1, _, _, h4, _, _, _, h8⟩
 ·rw [h4]; exact hb
 ·rw [h8]
  simp only [okT] at h ⊢
  obtain ⟨o1, o2, o3, o4, o5, o6, o7, o8⟩ := h
  rw [okTs_mem] at o8
  refine ⟨o1, o2, o3, o4, o5, o6, by rw [h1] at o7; simpa using o7, okTs_mem.2 fun z hz => ?_⟩
  rcases List.mem_append.1 hz with hz | hz
  ·exact o8 z (by rw [h1]; exact List.mem_append_left _ hz)
  ·rcases List.mem_cons.1 hz with rfl | hz
   ·exact ih x (by rw [h1]; simp) (o8 x (by rw [h1]; simp))
   ·exact o8 z (by rw [h1]; exact List.mem_append_right _ (List.mem_cons_of_mem _ hz))
mutual
theorem okT_rsub {b : TermT} (hwb : wfT b = true) (hb : okT b) : ∀ (t : TermT) (u w : Int), okT t → okT (qbm b t u w)
 | .mk op n s con to k names l, u, w, h => by
   rw [qbm]
   by_cases ho : op = 1
   ·rw [if_pos ho]
    by_cases e : n = w
    ·rw [if_pos e, rsh_map u w b 0 0 hwb]
     exact (shM_okwc u w hb (wf_wc b hwb)).1
    ·rw [if_neg e]
     by_cases e2 : n > w
     ·rw [if_pos e2]; exact okT_var _
     ·rw [if_neg e2]; exact h
   ·rw [if_neg ho]
    simp only [okT] at h ⊢
    obtain ⟨o1, o2, o3, o4, o5, o6, o7, o8⟩ := h
    exact ⟨o1, o2, o3, o4, o5, o6, by rw [rsubTL_len]; exact o7, okT_rsubL hwb hb op l 0 u w o8⟩
theorem okT_rsubL {b : TermT} (hwb : wfT b = true) (hb : okT b) (op : Int) : ∀ (l : List TermT) (i : Nat) (u w : Int), okTs l → okTs (qct b op l i u w)
 | [], _, _, _, _ => by rw [qct]; trivial
 | x :: r, i, u, w, h => by
   rw [qct]
   exact ⟨okT_rsub hwb hb x _ _ h.1, okT_rsubL hwb hb op r (i + 1) u w h.2⟩
end
theorem okT_con8 {t : TermT} (h : okT t) : okS t.con := by
 obtain ⟨op, n, s, con, to, k, names, l⟩ := t
 exact (qbo h).1
theorem okT_l {t : TermT} (h : okT t) : ∀ x ∈ t.l, okT x := by
 obtain ⟨op, n, s, con, to, k, names, l⟩ := t
 exact okTs_mem.1 (qbo h).2.2.2
theorem okT_rsubC {c : ConT} (hc : qac c = true) (ho : okS c) {t : TermT} (hw : wfT t = true) (h : okT t) : okT (qdm [c] t 0) := by
 have hall : [c].all qac = true := by simp [hc]
 rw [rsubC_map [c] hall t 0 0 hw]
 exact subCM_okT [c] hall (fun x hx => by simp at hx; subst hx; exact ho) h hw
theorem okT_mk {op n : Int} {s : ByteArray} {con : ConT} {l : List TermT} (hs : s.size ≤ 100000000) (hc : okCon con) (hl : l.length ≤ 1000000000) (h : ∀ x ∈ l, okT x) : okT (.mk op n s con zeroC [] [] l) := by
 simp only [okT]
 exact ⟨hs, hc, okCon_zero, by rw [knL]; decide, fun x hx => by simp at hx, by decide, hl, okTs_mem.2 h⟩
theorem okCon_conZ (c : Int) : okCon (conZ c) := ⟨by rw [conZ, sizeF, sizeL]; decide, by simp only [conZ, okS, okSs, and_true]; exact ⟨by decide, fun x hx => by simp at hx⟩⟩
theorem okS_unit : okS unitC := by simp only [unitC, okS, okSs, and_true]; exact ⟨by decide, fun x hx => by simp at hx⟩
theorem okCon_sum : okCon sumC := by
 refine ⟨by decide, ?_⟩
 simp only [sumC, okS, okSs, and_true]
 refine ⟨by decide, fun x hx => ?_, okS_unit, okS_unit⟩
 simp only [List.mem_cons, List.not_mem_nil, or_false] at hx
 rcases hx with rfl | rfl <;> decide
theorem okCon_bool : okCon boolC := by
 refine ⟨by decide, ?_⟩
 show okS (.mk 13 0 ByteArray.empty [] [] [sumC])
 simp only [okS, okSs, and_true]
 exact ⟨by decide, fun x hx => by simp at hx, okCon_sum.2⟩
theorem okT_nil {op n : Int} {s : ByteArray} {con : ConT} (hs : s.size ≤ 100000000) (hc : okCon con) : okT (.mk op n s con zeroC [] [] []) := okT_mk hs hc (by simp) fun x hx => by simp at hx
theorem okT_fail (n c : Int) : okT (failT n c) := okT_nil (by decide) (okCon_conZ c)
theorem okT_int (n : Int) : okT (intT n) := okT_nil (by decide) okCon_zero
theorem okT_numb (n : Int) (b : Bool) : okT (qcy n b) := by
 rw [qcy]
 split
 ·exact okT_fail _ _
 ·exact okT_int _
theorem okT_unit : okT unitT := okT_nil (by decide) okCon_zero
theorem okT_truth (b : Bool) : okT (truthT b) := by
 refine okT_mk (by decide) okCon_bool (by simp) fun x hx => ?_
 simp only [List.mem_cons, List.not_mem_nil, or_false] at hx
 subst hx
 refine okT_mk (by cases b <;> decide) okCon_sum (by simp) fun x hx => ?_
 simp only [List.mem_cons, List.not_mem_nil, or_false] at hx
 subst hx
 exact okT_unit
theorem show_size (n : Int) (h0 : -9223372036854775808 ≤ n) (h1 : n ≤ 9223372036854775807) : (showS n).size ≤ 21 := by
 have := Lib.itoa_length_le n h0 h1
 show ((Lib.itoa n).toArray).size ≤ 21
 simpa using this
theorem int_rng {t : TermT} (h : qab t = true) (ho : t.op = 2) : -mostN ≤ t.n ∧ t.n ≤ mostN := by
 have := (qc5 (vnode h)).2.2.1
 rw [ho, numT, if_neg (by decide), if_pos rfl] at this
 simp only [Bool.and_eq_true, decide_eq_true_eq] at this
 exact this
theorem okT_nums (op a b : Int) (h : -mostN ≤ a ∧ a ≤ mostN) : okT (qdq op a b) := by
 have hs := show_size a (by have := h.1; unfold mostN at this; omega) (by have := h.2; unfold mostN at this; omega)
 rw [qdq]
 repeat' split
 all_goals first
  | exact okT_numb _ _
  | exact okT_truth _
  | exact okT_fail _ _
  | exact okT_nil (by omega) okCon_zero
theorem okT_texts (op : Int) (a b : ByteArray) (h : (a.size : Int) ≤ 100000000) : okT (qci op a b).1 := by
 rw [qci]
 by_cases h1 : op = 10
 ·rw [if_pos h1]
  by_cases h2 : (a.size : Int) + b.size > 16384
  ·rw [if_pos h2]; exact okT_fail _ _
  ·rw [if_neg h2]
   refine okT_nil ?_ okCon_zero
   rw [ByteArray.size_append]; omega
 ·rw [if_neg h1]
  by_cases h2 : op = 11
  ·rw [if_pos h2]; exact okT_numb _ _
  ·rw [if_neg h2]
   by_cases h3 : op = 12
   ·rw [if_pos h3]; exact okT_truth _
   ·rw [if_neg h3]; exact okT_unit
theorem prim_args {n : Int} {s : ByteArray} {con to : ConT} {k : List KindT} {names : List ByteArray} {l : List TermT} (h : qab (.mk 18 n s con to k names l) = true) (e : ¬ l.any (fun x => x.op != qdl n) = true) :
  0 < l.length ∧ qab (hdT l) = true ∧ qab (qcg l) = true ∧ (hdT l).op = qdl n ∧ (qcg l).op = qdl n := by
 have hl : (l.length : Int) = arityF n := len18 h rfl
 have := arityF_le n
 have h0 : 0 < l.length := by omega
 have hp := qbl h
 have ho : ∀ x ∈ l, x.op = qdl n := fun x hx => by
  simp only [List.any_eq_true, not_exists, not_and] at e
  simpa using e x hx
 exact ⟨h0, hp _ (hd_mem h0), hp _ (last_mem h0), ho _ (hd_mem h0), ho _ (last_mem h0)⟩
theorem want_text {n : Int} (h : qco n = true) : qdl n = 3 := by rw [qdl, if_pos h]
theorem want_int {n : Int} (h : ¬ qco n = true) : qdl n = 2 := by rw [qdl, if_neg h]
theorem txt_rng {t : TermT} (h : qab t = true) (ho : t.op = 3) : (t.s.size : Int) ≤ 16384 := by
 have := (qc5 (vnode h)).2.2.2.2.1
 rw [ho, textT, if_pos rfl] at this
 exact of_decide_eq_true this
theorem okT_contrN {op n : Int} {s : ByteArray} {con to : ConT} {k : List KindT} {names : List ByteArray} {l : List TermT} (h : qab (.mk op n s con to k names l) = true) (hok : okT (.mk op n s con to k names l)) (hl : 0 < l.length) {r : TermT} (e : qax op s con names l = some r) : okT r := by
 have hp := qbl h
 have hpo := okTs_mem.1 (qbo hok).2.2.2
 have hv := hp _ (hd_mem hl)
 have hvo := hpo _ (hd_mem hl)
 have ih : ∀ {t : TermT}, qab t = true → okT t → (t.op = 4 ∨ t.op = 6 ∨ t.op = 7 ∨ t.op = 8 ∨ t.op = 11 ∨ t.op = 12 ∨ t.op = 14 ∨ t.op = 15 ∨ t.op = 16) → okT (hdT t.l) := fun h1 h2 ho => okT_l h2 _ (hd_mem (by rw [len1 h1 ho]; decide))
 have two : ∀ {x y : TermT} {op' : Int}, okT x → okT y → okT (nodeL op' [x, y]) := fun h1 h2 => okT_mk (by decide) okCon_zero (by simp) fun z hz => by
  simp only [List.mem_cons, List.not_mem_nil, or_false] at hz
  rcases hz with rfl | rfl
  ·exact h1
  ·exact h2
 rw [qax] at e
 by_cases h5 : op = 5
 ·have hm := qds (l := l) (by rw [show l.length = 2 from len2 h (.inl h5)]; decide)
  rw [if_pos h5] at e
  split at e
  ·rename_i g
   cases e
   exact okT_rsub (qae (hp _ hm)).1 (hpo _ hm) _ 0 0 (ih hv hvo (.inl g))
  ·split at e
   ·rename_i g
    cases e
    exact two (okT_rsub (qae hv).1 hvo _ 0 0 (ih hv hvo (by omega))) (hpo _ hm)
   ·cases e
 ·rw [if_neg h5] at e
  by_cases h7 : op = 7
  ·have hc : qac con = true := (qbi (vnode h)).1 (show qad op = true by rw [h7]; decide)
   rw [if_pos h7] at e
   split at e
   ·rename_i g
    cases e
    exact okT_rsubC hc (qbo hok).1 (qae (qau hv (by omega))).1 (ih hv hvo (by omega))
   ·split at e
    ·rename_i g
     cases e
     have hcs : okCon con := by simp only [okT] at hok; exact hok.2.1
     refine okT_mk (by decide) hcs (by simp) fun z hz => ?_
     simp only [List.mem_cons, List.not_mem_nil, or_false] at hz
     subst hz
     exact okT_rsub (qae hv).1 hvo _ 0 0 (ih hv hvo (by omega))
    ·cases e
  ·rw [if_neg h7] at e
   by_cases h9 : op = 9
   ·have hm := qds (l := l) (by rw [show l.length = 2 from len2 h (.inr (.inl h9))]; decide)
    rw [if_pos h9] at e
    split at e
    ·rename_i g
     cases e
     have hi := qau hv (by omega)
     exact okT_rsub (qae hi).1 (ih hv hvo (by omega)) _ 0 0 (okT_rsubC (vcon hv (by rw [g]; decide)) (okT_con8 hvo) (qae (hp _ hm)).1 (hpo _ hm))
    ·cases e
   ·rw [if_neg h9] at e
    by_cases h11 : op = 11
    ·rw [if_pos h11] at e
     split at e
     ·rename_i g
      cases e
      have hf := find_lt _ _ 0 (Int.le_refl _) g.2
      have hll := len10 hv g.1
      exact okT_l hvo _ (getD_mem (by omega))
     ·cases e
    ·rw [if_neg h11] at e
     by_cases h13 : op = 13
     ·have hll : l.length = names.length + 1 := len13 h h13
      rw [if_pos h13] at e
      split at e
      ·rename_i g
       cases e
       have hf := find_lt _ _ 0 (Int.le_refl _) g.2
       have hm := getD_mem (l := l) (i := (findS names (hdT l).s 0).toNat + 1) (by omega)
       exact okT_rsub (qae (qau hv (by omega))).1 (ih hv hvo (by omega)) _ 0 0 (hpo _ hm)
      ·cases e
     ·rw [if_neg h13] at e
      by_cases h15 : op = 15
      ·rw [if_pos h15] at e
       split at e
       ·rename_i g
        cases e
        exact ih hv hvo (by omega)
       ·cases e
      ·rw [if_neg h15] at e
       by_cases h17 : op = 17
       ·have hm := qds (l := l) (by rw [show l.length = 2 from len2 h (.inr (.inr h17))]; decide)
        rw [if_pos h17] at e
        cases e
        exact okT_rsub (qae hv).1 hvo _ 0 0 (hpo _ hm)
       ·rw [if_neg h17] at e; cases e
theorem rcontr_pos {op n : Int} {s : ByteArray} {con to : ConT} {k : List KindT} {names : List ByteArray} {l : List TermT} (h : qab (.mk op n s con to k names l) = true) (ha : ¬ (actT op l.length = 0 ∨ l = [])) : 0 < l.length := by
 cases l with
 | nil => exact absurd (.inr rfl) ha
 | cons x r => simp
theorem okT_contr {t : TermT} (h : qab t = true) (hok : okT t) : okT (rcontrT t).1 := by
 obtain ⟨op, n, s, con, to, k, names, l⟩ := t
 rw [rcontrT]
 by_cases h18 : op = 18
 ·rw [if_pos h18, rprimT]
  subst h18
  by_cases e : l.any (fun x => x.op != qdl n) = true
  ·rw [if_pos e]; exact okT_zero
  ·obtain ⟨h0, g1, g2, g3, g4⟩ := prim_args h e
   rw [if_neg e]
   by_cases e1 : qco n = true
   ·rw [want_text e1] at g3
    rw [if_pos e1]
    split
    ·exact okT_unit
    ·exact okT_texts _ _ _ (by have := txt_rng g1 g3; omega)
   ·rw [want_int e1] at g3
    rw [if_neg e1]
    exact okT_nums _ _ _ (int_rng g1 g3)
 ·rw [if_neg h18]
  by_cases ha : actT op l.length = 0 ∨ l = []
  ·rw [if_pos ha]; exact okT_zero
  ·rw [if_neg ha]
   cases e : qax op s con names l with
   | none => exact okT_zero
   | some r => exact okT_contrN h hok (rcontr_pos h ha) e
theorem okT_rstep {t : TermT} (h : qab t = true) (hok : okT t) : okT (rbT (rcontrT (nextT t)).1 t) := by
 obtain ⟨h1, h2⟩ := next_valid t h hok
 exact okT_reb (okT_contr h1 h2) t hok
def showB (n : Int) : ByteArray := ⟨(Lib.itoa n).toArray⟩
theorem ItoaAll_spec (n : Int) (h1 : -9223372036854775808 ≤ n) (h2 : n ≤ 9223372036854775807) : Spec Tryz.prog 292 [ii n] [] (.str (showB n)) [] := by
 refine Spec.of_below (by kernel_rfl) fun G w vs hW hr => ?_
 have hv : vs = #[.int .i64 n] := by
  simp only [RepSVs, ii, RepSV, RepSC, Rep] at hr
  obtain ⟨v, rest, h1, rfl, h3⟩ := hr
  subst h3
  exact Array.toList_inj.1 h1
 subst hv
 obtain ⟨⟨cs, T, fr, g1, g0⟩, _⟩ := hW.glob 3 (by simp [gvars])
 rw [gcells, if_neg (by decide)] at g0
 have htab : Lib.TabIs Tryz.prog w "internal/strconv.uint64pow10" .u64 Lib.pow10Tab := by
  unfold Lib.TabIs World.var?
  rw [gTab]
  simp only [Option.bind_some]
  rw [g1, g0]
 refine (Any.strconv_Itoa Tryz.laysM171 n h1 h2 w htab).mono ?_
 rintro e w' ⟨rfl, k, os, rfl⟩
 exact ⟨_, rfl, by rw [Rep]; rfl, Lib.below_grow _ w (Nat.le_refl _) k os⟩
theorem bytes_push (l : List UInt8) (b : UInt8) : (ByteArray.mk l.toArray) ++ (ByteArray.empty.push b) = ⟨(l ++ [b]).toArray⟩ := by
 apply ByteArray.ext
 rw [ByteArray.data_append]
 show l.toArray ++ #[b] = (l ++ [b]).toArray
 simp
theorem bytes_cons (l : List UInt8) (b : UInt8) : (ByteArray.mk #[b]) ++ (ByteArray.mk l.toArray) = ⟨(b :: l).toArray⟩ := by
 apply ByteArray.ext
 rw [ByteArray.data_append]
 show #[b] ++ l.toArray = (b :: l).toArray
 simp
theorem show_nat (n : Nat) : showB n = ⟨(Lib.decDigits n).toArray⟩ := by rw [showB, Lib.itoa_nonneg]
theorem DecimalK_spec : ∀ (k n : Nat), n < k → (n : Int) ≤ 9000000000000000000 → Spec Tryz.prog 272 [ii n] [] (.str (showB n)) [] := by
 intro k
 induction k with
 | zero => intro n h; omega
 | succ k ih0 =>
   intro n hk hn
   have ih : ∀ m, m < n → (m : Int) ≤ 9000000000000000000 → Spec Tryz.prog 272 [ii m] [] (.str (showB m)) [] := fun m hm => ih0 m (by omega)
   clear ih0 hk
   by_cases h : n ≤ 9
   ·have := Decimal_spec n h
    rw [show showB n = decF n by rw [show_nat, Lib.decDigits_one (by omega), decF]; rfl]
    exact this
   ·have hI := ih (n / 10) (by omega) (by omega)
    have e : showB n = showB (n / 10 : Nat) ++ ByteArray.empty.push (UInt8.ofNat (48 + n % 10)) := by
     rw [show_nat, show_nat, bytes_push, Lib.decDigits, dif_neg (by omega)]
    have d1 : decide ((n : Int) < 0) = false := decide_eq_false (by omega)
    have d2 : decide ((n : Int) < 10) = false := decide_eq_false (by omega)
    have d3 : (n : Int).tdiv 10 = ((n / 10 : Nat) : Int) := by rw [Int.tdiv_eq_ediv_of_nonneg (by omega)]; simp
    have d4 : (n : Int).tmod 10 = ((n % 10 : Nat) : Int) := by rw [Int.tmod_eq_emod_of_nonneg (by omega)]; simp
    have w0 : IntKind.i64.wrap ((n / 10 : Nat) : Int) = ((n / 10 : Nat) : Int) := wId (by omega) (by omega)
    have w1 : IntKind.i64.wrap (48 + ((n % 10 : Nat) : Int)) = 48 + ((n % 10 : Nat) : Int) := wId (by omega) (by omega)
    have hm : n % 10 < 10 := Nat.mod_lt _ (by decide)
    rw [e]
    generalize n % 10 = m at d4 w1 hm ⊢
    have w2 : IntKind.u8.wrap (48 + (m : Int)) = 48 + m := by
     rcases (show m = 0 ∨ m = 1 ∨ m = 2 ∨ m = 3 ∨ m = 4 ∨ m = 5 ∨ m = 6 ∨ m = 7 ∨ m = 8 ∨ m = 9 by omega) with rfl | rfl | rfl | rfl | rfl | rfl | rfl | rfl | rfl | rfl <;> rfl
    have w3 : (48 + (m : Int)).toNat = 48 + m := by omega
    have hsz : (showB (n / 10 : Nat)).size + (ByteArray.empty.push (UInt8.ofNat (48 + m))).size ≤ 9223372036854775807 := by
     have := Lib.itoa_length_le ((n / 10 : Nat) : Int) (by omega) (by omega)
     have e1 : (showB (n / 10 : Nat)).size = (Lib.itoa ((n / 10 : Nat) : Int)).length := by rw [showB]; simp [ByteArray.size]
     have e2 : (ByteArray.empty.push (UInt8.ofNat (48 + m))).size = 1 := rfl
     rw [e1, e2]; omega
    generalize showB (n / 10 : Nat) = r at hI hsz ⊢
    refine wk (rv := [.tmp 2]) ann272 26 Tryz.func272 ?_
    simp only [go_sem, d1, d2, d3, w0, Int.reduceEq, if_false]
    refine aC hI ?_
    simp only [go_sem, d4, w1, w2, w3, Int.reduceEq, if_false, List.isEmpty_cons, List.foldl_cons, List.foldl_nil, hsz, if_true]
theorem DecimalAll_spec (n : Nat) (h : (n : Int) ≤ 9000000000000000000) : Spec Tryz.prog 272 [ii n] [] (.str (showB n)) [] := DecimalK_spec (n + 1) n (Nat.lt_succ_self n) h
end Go.Abs.Kon
