/- Contracts of functions: what comes in is a tree; from a walk to a row. -/
import Derived.Test.YtjfegcnjmpedhaaGreatDoorKonF
import Derived.Test.YtjfegcnjmpedhaaGreatDoorShelfA
import Derived.WalkKit
import Derived.ProofKit
import Derived.OpenShut
import Derived.Carry
import Derived.Deep.Slices
import Derived.Test.YtjfegcnjmpedhaaGreatDoorCards
import Derived.Test.YtjfegcnjmpedhaaGreatDoorTie
import Derived.Deep.DeepHandedRow
import Derived.Lib.LaidTab
import Derived.LaidLaws
import Derived.Stop.LaidErr
set_option linter.unusedSimpArgs false
set_option linter.unusedVariables false
namespace Go.Abs.Kon
open Go Go.Proofs Go.Abs
set_option maxRecDepth 100000
set_option maxHeartbeats 4000000

theorem Free1_var0 : Spec Tryz.prog 85 [pp (encC (varC 0)), ii 1, .one (.ptr (.ref 0) 0)] [⟨.one, .one .nilS⟩] (.tuple []) [⟨.one, .one .nilS⟩] := by
  refine wk (rv := []) ann85 21 Tryz.func85 ?_
  have e1 : ((1 : Int) == 1) = true := rfl
  have e2 : decide ((0 : Int) ≥ 1) = false := rfl
  simp only [go_sem, varC, encC_mk, e1, e2]
theorem Free1_var1 : Spec Tryz.prog 85 [pp (encC (varC 1)), ii 1, .one (.ptr (.ref 0) 0)] [⟨.one, .one .nilS⟩] (.tuple []) [⟨.one, .one (.own 40 .one [.int .i64 0])⟩] := by
  refine wk (rv := []) ann85 21 Tryz.func85 ?_
  have e1 : ((1 : Int) == 1) = true := rfl
  have e2 : decide ((1 : Int) ≥ 1) = true := rfl
  have e3 : IntKind.i64.wrap (1 - 1) = 0 := by decide
  simp only [go_sem, varC, encC_mk, e1, e2, e3, one_le_maxLen]

theorem each_var0 : Spec Tryz.prog 47 [pp (encC (varC 0)), ii 1, .one (.fn 85 [.ptr (.ref 0) 0])] [⟨.one, .one .nilS⟩] (.tuple []) [⟨.one, .one .nilS⟩] := by
  have hS := Free1_var0
  have hB := binder_spec (varC 0)
  simp only [varC, encC_mk, List.map_nil] at hS hB
  refine wk (rv := []) ann47 36 Tryz.func47 ?_
  have e1 : ((1 : Int) == 1) = true := rfl
  simp only [go_sem, varC, encC_mk, e1]
  refine aCall_intro hS ?_
  simp only [go_sem]
  refine aCall_intro hB ?_
  have e2 : isBinder (ConT.mk 1 0 ByteArray.empty [] [] []).op = false := rfl
  simp only [go_sem, e2]
  refine ⟨1, ?_⟩
  rw [aLoop_succ]
  simp only [go_sem, Int.natCast_zero, lt_false (Int.le_refl _)]
theorem each_var1 : Spec Tryz.prog 47 [pp (encC (varC 1)), ii 1, .one (.fn 85 [.ptr (.ref 0) 0])] [⟨.one, .one .nilS⟩] (.tuple []) [⟨.one, .one (.own 38 .one [.int .i64 0])⟩] := by
  have hS := Free1_var1
  have hB := binder_spec (varC 1)
  simp only [varC, encC_mk, List.map_nil] at hS hB
  refine wk (rv := []) ann47 36 Tryz.func47 ?_
  have e1 : ((1 : Int) == 1) = true := rfl
  simp only [go_sem, varC, encC_mk, e1]
  refine aCall_intro hS ?_
  simp only [go_sem]
  refine aCall_intro hB ?_
  have e2 : isBinder (ConT.mk 1 1 ByteArray.empty [] [] []).op = false := rfl
  simp only [go_sem, e2]
  refine ⟨1, ?_⟩
  rw [aLoop_succ]
  simp only [go_sem, Int.natCast_zero, lt_false (Int.le_refl _)]
theorem each_app : Spec Tryz.prog 47 [pp (encC (appC (varC 0) (varC 1))), ii 1, .one (.fn 85 [.ptr (.ref 0) 0])] [⟨.one, .one .nilS⟩] (.tuple []) [⟨.one, .one (.own 68 .one [.int .i64 0])⟩] := by
  have h0 := each_var0
  have h1 := each_var1
  have hB := binder_spec (appC (varC 0) (varC 1))
  simp only [appC, encC_mk, List.map_nil, List.map_cons] at hB
  refine wk (rv := []) ann47 36 Tryz.func47 ?_
  have e1 : ((12 : Int) == 1) = false := rfl
  have e3 : ((12 : Int) == 2) = false := rfl
  have e2 : isBinder (ConT.mk 12 0 ByteArray.empty [] [] [varC 0, varC 1]).op = false := rfl
  have w1 : IntKind.i64.wrap (0 + 1) = 1 := by decide
  have w2 : IntKind.i64.wrap (1 + 1) = 2 := by decide
  have t1 : decide ((0 : Int) < ((2 : Nat) : Int)) = true := rfl
  have t2 : decide ((1 : Int) < ((2 : Nat) : Int)) = true := rfl
  have t3 : decide ((2 : Int) < ((2 : Nat) : Int)) = false := rfl
  simp only [go_sem, appC, encC_mk, e1, e3]
  refine aCall_intro hB ?_
  simp only [go_sem, e2]
  refine ⟨3, ?_⟩
  rw [aLoop_succ]
  simp only [go_sem, encC_sz, t1]
  refine aCall_intro h0 ?_
  simp only [go_sem, encC_sz, w1]
  rw [aLoop_succ]
  simp only [go_sem, encC_sz, t2]
  refine aCall_intro h1 ?_
  simp only [go_sem, encC_sz, w2]
  rw [aLoop_succ]
  simp only [go_sem, encC_sz, t3]
def lamC (n : Int) : ConT := boundC 11 [] (appC (varC 0) (varC n))
theorem each_lam : Spec Tryz.prog 47 [pp (encC (lamC 1)), ii 0, .one (.fn 85 [.ptr (.ref 0) 0])] [⟨.one, .one .nilS⟩] (.tuple []) [⟨.one, .one (.own 68 .one [.int .i64 0])⟩] := by
  have h0 := each_app
  have hB := binder_spec (lamC 1)
  simp only [lamC, boundC, encC_mk, List.map_nil, List.map_cons] at hB
  refine wk (rv := []) ann47 36 Tryz.func47 ?_
  have e1 : ((11 : Int) == 1) = false := rfl
  have e3 : ((11 : Int) == 2) = false := rfl
  have e2 : isBinder (ConT.mk 11 0 ByteArray.empty [] [] [appC (varC 0) (varC 1)]).op = true := rfl
  have w1 : IntKind.i64.wrap (0 + 1) = 1 := by decide
  have t1 : decide ((0 : Int) < ((1 : Nat) : Int)) = true := rfl
  have t2 : decide ((1 : Int) < ((1 : Nat) : Int)) = false := rfl
  simp only [go_sem, lamC, boundC, encC_mk, e1, e3]
  refine aCall_intro hB ?_
  simp only [go_sem, e2, w1]
  refine ⟨2, ?_⟩
  rw [aLoop_succ]
  simp only [go_sem, encC_sz, t1]
  refine aCall_intro h0 ?_
  simp only [go_sem, encC_sz, w1]
  rw [aLoop_succ]
  simp only [go_sem, encC_sz, t2]

/-! Sorting one element -/

theorem vs_u64 {G : Gh} {n : Int} {vs : Array Value} (h : RepSVs G [] [pp (.int .u64 n)] vs.toList) : vs = #[.int .u64 n] := by
  simp only [RepSVs, pp, RepSV, RepSC, Rep] at h
  obtain ⟨v, rest, h1, rfl, h3⟩ := h
  subst h3
  exact Array.toList_inj.1 h1
theorem Len64_spec : Spec Tryz.prog 134 [pp (.int .u64 1)] [] (.int .i64 (Lib.bitLen 1)) [] := by
  refine Spec.of_below (by kernel_rfl) fun G w vs hW hr => ?_
  obtain rfl := vs_u64 hr
  refine (Tryz.bits_Len64 1 w (by decide) (by decide)).mono ?_
  rintro e w' ⟨rfl, rfl⟩
  exact ⟨_, rfl, rfl, RowKit.Below.refl _ _⟩
theorem insertion_spec (e : PV) : Spec Tryz.prog 153 [pp (.slice [e]), ii 0, ii 1] [] (.tuple []) [] := by
  refine wk (rv := []) ann153 49 Tryz.func153 ?_
  have w1 : IntKind.i64.wrap (0 + 1) = 1 := by decide
  simp only [go_sem, w1]
  refine ⟨1, ?_⟩
  rw [aLoop_succ]
  simp only [go_sem]
theorem pdq_spec (e : PV) (n : Int) : Spec Tryz.prog 117 [pp (.slice [e]), ii 0, ii 1, ii n] [] (.tuple []) [] := by
  have hI := insertion_spec e
  refine wk (rv := []) ann117 134 Tryz.func117 ?_
  have w1 : IntKind.i64.wrap (1 - 0) = 1 := by decide
  simp only [go_sem, w1]
  refine ⟨1, ?_⟩
  rw [aLoop_succ]
  simp only [go_sem, w1]
  refine aCall_intro hI ?_
  simp only [go_sem]
theorem Len_spec : Spec Tryz.prog 98 [pp (.int .u64 1)] [] (.int .i64 (Lib.bitLen 1)) [] := by
  have hI := Len64_spec
  refine wk (rv := [.tmp 2]) ann98 8 Tryz.func98 ?_
  simp only [go_sem]
  refine aCall_intro hI ?_
  simp only [go_sem]
theorem Sort_spec (e : PV) : Spec Tryz.prog 86 [pp (.slice [e])] [] (.tuple []) [] := by
  have hI := Len_spec
  have hP := pdq_spec e (Lib.bitLen 1)
  refine wk (rv := []) ann86 11 Tryz.func86 ?_
  have n1 : ((1 : Nat) : Int) = 1 := rfl
  have w1 : IntKind.u64.wrap 1 = 1 := by decide
  simp only [go_sem, n1, w1]
  refine aCall_intro hI ?_
  simp only [go_sem, n1]
  refine aCall_intro hP ?_
  simp only [go_sem]
theorem Compact_spec (e : PV) (he : e.hasSz .one = true) : Spec Tryz.prog 87 [pp (.slice [e])] [] (.slice [e]) [] := by
  refine wk (rv := [.tmp 2]) ann87 61 Tryz.func87 ?_
  have n1 : ((1 : Nat) : Int) = 1 := rfl
  have t1 : decide ((1 : Int) < 2) = true := rfl
  simp only [go_sem, n1, t1]

theorem lam_small : wtF (lamC 1) = 4 ∧ sizeF (lamC 1) = 4 := by
  constructor <;> rfl
theorem lam_okS (n : Int) : okS (lamC n) := by
  have : ∀ x ∈ ([] : List ByteArray), x.size ≤ 100000000 := fun x hx => by simp at hx
  simp only [lamC, boundC, appC, varC, okS, okSs, and_true]
  exact ⟨by decide, this, by decide, this, ⟨by decide, this⟩, by decide, this⟩
theorem lam_valid : validF (lamC 1) = true := by decide +kernel
theorem Free_spec : Spec Tryz.prog 37 [pp (encC (lamC 1))] [] (.tuple [.slice [.int .i64 0], .int .i64 0]) [] := by
  have hV := Valid_spec (lamC 1) (by rw [lam_small.2]; decide) (lam_okS 1)
  rw [lam_valid] at hV
  have hE := each_lam
  have hS := Sort_spec (.int .i64 0)
  have hC := Compact_spec (.int .i64 0) rfl
  refine wk (rv := [.tmp 2, .tmp 3]) ann37 15 Tryz.func37 ?_
  generalize lamC 1 = c at hV hE
  simp only [go_sem, encC_sz]
  refine aCall_intro hV ?_
  simp only [go_sem, encC_sz]
  refine aCall_intro hE ?_
  simp only [go_sem, encC_sz]
  refine aCall_intro hS ?_
  simp only [go_sem]
  refine aCall_intro hC ?_
  simp only [go_sem]
theorem shift_lam : shiftF (lamC 1) 2 0 = (lamC 3, 0) := by kernel_rfl
def intC : ConT := .mk 4 0 ByteArray.empty [] [] []
def lamI : ConT := boundC 11 [] (appC (varC 0) intC)
theorem subst_lam : substF (lamC 1) [intC] = (lamI, 0) := by kernel_rfl
theorem eq_lam3 : eqC (lamC 3) (lamC 3) = true := by kernel_rfl
theorem eq_lamI : eqC lamI lamI = true := by kernel_rfl

theorem int_okS : okS intC := by
  have : ∀ x ∈ ([] : List ByteArray), x.size ≤ 100000000 := fun x hx => by simp at hx
  simp only [intC, okS, okSs, and_true]
  exact ⟨by decide, this⟩
theorem awake_spec : Spec Tryz.prog 5 [] [] (.bool true) [] := by
  have hF := Free_spec
  have hSh := Shift_spec (lamC 1) 2 0 (by rw [lam_small.1]; decide) (lam_okS 1)
  have hSu := Subst_spec (lamC 1) [intC] (by rw [lam_small.1]; decide) (lam_okS 1) (by
    intro x hx
    rw [List.mem_singleton.1 hx]
    exact ⟨by show wtF intC ≤ 10000000; rw [show wtF intC = 1 from rfl]; decide, int_okS⟩)
  rw [shift_lam] at hSh
  rw [subst_lam] at hSu
  have hE3 := rSame_spec (lamC 3) (lamC 3)
  have hEI := rSame_spec lamI lamI
  rw [eq_lam3] at hE3
  rw [eq_lamI] at hEI
  have v0 := rVar_spec 0
  have v1 := rVar_spec 1
  have v3 := rVar_spec 3
  have a1 := rApp_spec (varC 0) (varC 1)
  have a3 := rApp_spec (varC 0) (varC 3)
  have aI := rApp_spec (varC 0) intC
  have b1 := rBound_spec 11 [] (appC (varC 0) (varC 1))
  have b3 := rBound_spec 11 [] (appC (varC 0) (varC 3))
  have bI := rBound_spec 11 [] (appC (varC 0) intC)
  have hEq := EqualI [0] [0]
  have hEq0 : eqL intEq [0] [0] = true := by decide
  rw [hEq0] at hEq
  rw [show boundC 11 [] (appC (varC 0) (varC 1)) = lamC 1 from rfl] at b1
  rw [show boundC 11 [] (appC (varC 0) (varC 3)) = lamC 3 from rfl] at b3
  rw [show boundC 11 [] (appC (varC 0) intC) = lamI from rfl] at bI
  have hint : encC intC = .agg [.int .i64 4, .int .i64 0, .str ByteArray.empty, .slice [], .slice [], .slice []] := rfl
  simp only [List.map_cons, List.map_nil, hint, encK_mk] at hSu aI b1 b3 bI hEq
  refine wk (rv := [.tmp 0]) ann5 63 Tryz.func5 ?_
  have e0 : ((0 : Int) == 0) = true := rfl
  generalize lamC 1 = l1 at hF hSh hSu b1
  generalize lamC 3 = l3 at hSh hE3 b3
  generalize lamI = lI at hSu hEI bI
  generalize appC (varC 0) (varC 1) = p1 at a1 b1
  generalize appC (varC 0) (varC 3) = p3 at a3 b3
  generalize appC (varC 0) intC = pI at aI bI
  generalize varC 0 = y0 at v0 a1 a3 aI
  generalize varC 1 = y1 at v1 a1
  generalize varC 3 = y3 at v3 a3
  simp only [go_sem]
  refine aCall_intro v0 ?_
  simp only [go_sem, encC_sz]
  refine aCall_intro v1 ?_
  simp only [go_sem, encC_sz]
  refine aCall_intro a1 ?_
  simp only [go_sem, encC_sz]
  refine aCall_intro b1 ?_
  simp only [go_sem, encC_sz]
  refine aCall_intro hF ?_
  simp only [go_sem, encC_sz]
  refine aCall_intro hSh ?_
  simp only [go_sem, encC_sz]
  refine aCall_intro hSu ?_
  simp only [go_sem, encC_sz]
  refine aCall_intro hEq ?_
  simp only [go_sem, encC_sz, e0]
  refine aCall_intro v0 ?_
  simp only [go_sem, encC_sz]
  refine aCall_intro v3 ?_
  simp only [go_sem, encC_sz]
  refine aCall_intro a3 ?_
  simp only [go_sem, encC_sz]
  refine aCall_intro b3 ?_
  simp only [go_sem, encC_sz]
  refine aCall_intro hE3 ?_
  simp only [go_sem, encC_sz, e0]
  refine aCall_intro v0 ?_
  simp only [go_sem, encC_sz]
  refine aCall_intro aI ?_
  simp only [go_sem, encC_sz]
  refine aCall_intro bI ?_
  simp only [go_sem, encC_sz]
  refine aCall_intro hEI ?_
  simp only [go_sem, encC_sz, e0]
end Go.Abs.Kon

namespace Go.Abs.Kon
open Go Go.Proofs Go.Abs Go.ChangeShapes Go.WideShapes Go.ChangeAt Go.RowKit
set_option maxRecDepth 100000
set_option maxHeartbeats 4000000

instance : Inhabited KindT := ⟨.mk []⟩
instance : Inhabited ConT := ⟨zeroC⟩

def memI (W : World) : Imm := fun b o => W.cell? ⟨b, o, none⟩

theorem repE_of {I : Imm} {k : Sz} : ∀ (es : List PV) (b o : Nat), (∀ i e, es[i]? = some e → ∃ u, Rep I e u ∧ Sz.okV k u = true ∧ At I b (o + i * k.size) u) → RepE I k es b o
  | [], b, o, h => by simp [RepE]
  | e :: es, b, o, h => by
    rw [RepE]
    refine ⟨by simpa using h 0 e rfl, repE_of es b _ fun i e' hi => ?_⟩
    have := h (i + 1) e' (by simpa using hi)
    rw [Nat.add_mul, Nat.one_mul, Nat.add_comm (i * k.size), ← Nat.add_assoc] at this
    exact this

section
variable {H : Type} {enc : TypeId × Value → H} {W : World} {base base' : Nat} {sp : Nat → Bool} {hd : Bool}

theorem add_none (b o n : Nat) : Addr.add ⟨b, o, none⟩ n = ⟨b, o + n, none⟩ := by
  unfold Addr.add
  split
  · rename_i h; subst h; rfl
  · rfl

theorem open_elems {t e : TypeId} {k : Sz} (ht : Tryz.prog.underlying t = some (.slice e)) (hc : Tryz.prog.cellsOf e = k.size) (hpos : 0 < k.size) {α : Type} [Inhabited α] (enc' : α → PV) {n : Nat}
    (down : ∀ m cs x, m < n → DataW.trod enc Tryz.prog W base sp hd m e cs = some x → ∃ (a : α) (u : Value), u.cells.toList = cs ∧ Rep (memI W) (enc' a) u ∧ k.okV u = true) {cs : List Value} {x : DataW H × List MemPlace}
    (h : DataW.trod enc Tryz.prog W base sp hd n t cs = some x) : ∃ (l : List α) (v : Value), cs = [v] ∧ Rep (memI W) (.slice (l.map enc')) v ∧ v.oneCell' = true := by
  rcases DataW.trod_slice ht h with ⟨rfl, _⟩ | ⟨a, len, cap, elems, rest, m, rfl, rfl, _, _, hlc, hcm, hlen, hel, _, _⟩
  · exact ⟨[], _, rfl, by rw [List.map_nil, Rep]; exact ⟨none, 0, 0, .one, rfl, rfl, Nat.le_refl _, Nat.zero_le _, .inl rfl⟩, rfl⟩
  · have hone : ∀ i, i < len → ∃ (z : α) (u : Value), Rep (memI W) (enc' z) u ∧ k.okV u = true ∧ a.spot = none ∧ At (memI W) a.block (a.off + i * k.size) u := by
      intro i hi
      have h1 := hel i hi
      rw [List.getElem?_eq_getElem (by rw [hlen]; exact hi)] at h1
      obtain ⟨cs', h2, h3⟩ := Option.bind_eq_some_iff.1 h1
      obtain ⟨z, u, h4, h5, h6⟩ := down m cs' _ (Nat.lt_succ_self _) h3
      obtain ⟨_, h7, h8⟩ := World.cells?_some h2
      have hu := Sz.size_of_ok h6
      have hspot : ∀ i', i' < len → a.spot = none ∨ 0 < i' * k.size := fun i' _ => by
        by_cases h0 : i' = 0
        · left
          subst h0
          have h1 := hel 0 (by omega)
          rw [List.getElem?_eq_getElem (by omega)] at h1
          obtain ⟨cs0, g2, _⟩ := Option.bind_eq_some_iff.1 h1
          obtain ⟨_, g7, g8⟩ := World.cells?_some g2
          have g9 := g8 0 (by rw [hc]; exact hpos)
          rw [hc] at g7
          rw [List.getElem?_eq_getElem (by omega)] at g9
          rw [Nat.zero_mul] at g9
          have ea : (a.add 0).add 0 = a := rfl
          rw [ea] at g9
          unfold World.cell? at g9
          cases hs : a.spot with
          | none => rfl
          | some s =>
            rw [hs] at g9
            split at g9 <;> simp at g9
        · exact .inr (Nat.mul_pos (by omega) hpos)
      have hs0 : a.spot = none := by
        rcases hspot 0 (by omega) with h | h
        · exact h
        · simp at h
      refine ⟨z, u, h5, h6, hs0, fun j v hj => ?_⟩
      obtain ⟨b, o, s⟩ := a
      simp only at hs0
      subst hs0
      have hjl : j < k.size := by
        have := (Array.getElem?_eq_some_iff.1 hj).1
        omega
      have := h8 j (by rw [hc]; exact hjl)
      rw [add_none, add_none, hc, ← h4, Array.getElem?_toList, hj] at this
      exact this
    obtain ⟨f, hf⟩ : ∃ f : Nat → α, ∀ i, i < len → ∃ u : Value, Rep (memI W) (enc' (f i)) u ∧ k.okV u = true ∧ a.spot = none ∧ At (memI W) a.block (a.off + i * k.size) u := by
      refine ⟨fun i => if h : i < len then (hone i h).choose else default, fun i hi => ?_⟩
      simp only [hi, dif_pos]
      exact (hone i hi).choose_spec
    refine ⟨(List.range len).map f, _, rfl, ?_, rfl⟩
    rw [Rep]
    refine ⟨some a, len, cap, k, rfl, by simp, hlc, hcm, ?_⟩
    by_cases h0 : len = 0
    · left; subst h0; rfl
    · right
      have hs0 := (hf 0 (by omega)).choose_spec.2.2.1
      refine ⟨a.block, a.off, by rw [← hs0], repE_of _ _ _ fun i e' hi => ?_⟩
      simp only [List.map_map, List.getElem?_map, Option.map_eq_some_iff] at hi
      obtain ⟨j, hj, rfl⟩ := hi
      obtain ⟨hlt, hj'⟩ := List.getElem?_eq_some_iff.1 hj
      have hji : i < len := by simpa using hlt
      simp at hj'
      subst hj'
      obtain ⟨u, h1, h2, _, h4⟩ := hf i hji
      exact ⟨u, h1, h2, h4⟩

theorem open_str {n : Nat} {cs : List Value} {x : DataW H × List MemPlace} (h : DataW.trod enc Tryz.prog W base sp hd n 9 cs = some x) : ∃ (s : ByteArray) (u : Value), u.cells.toList = cs ∧ Rep (memI W) (.str s) u ∧ Sz.one.okV u = true := by
  cases n with
  | zero => simp [DataW.trod] at h
  | succ n =>
    unfold DataW.trod at h
    rw [Tryz.underlying9] at h
    split at h <;> simp_all
    rename_i s
    exact ⟨s, .string s, by simp [Value.cells], by simp [Rep], rfl⟩
theorem open_i64 {n : Nat} {cs : List Value} {x : DataW H × List MemPlace} (h : DataW.trod enc Tryz.prog W base sp hd n 3 cs = some x) : ∃ m : Int, cs = [.int .i64 m] := by
  cases n with
  | zero => simp [DataW.trod] at h
  | succ n =>
    unfold DataW.trod at h
    rw [Tryz.underlying3] at h
    split at h <;> simp_all

theorem cells24 : Tryz.prog.cellsOf 24 = 1 := by kernel_rfl
theorem cells28 : Tryz.prog.cellsOf 28 = 6 := by kernel_rfl
theorem cells9 : Tryz.prog.cellsOf 9 = 1 := by kernel_rfl
theorem cells3 : Tryz.prog.cellsOf 3 = 1 := by kernel_rfl
theorem cells25 : Tryz.prog.cellsOf 25 = 1 := by kernel_rfl
theorem cells26 : Tryz.prog.cellsOf 26 = 1 := by kernel_rfl
theorem cells22 : Tryz.prog.cellsOf 22 = 1 := by kernel_rfl

theorem open_kind : ∀ (n : Nat) (cs : List Value) (x : DataW H × List MemPlace), DataW.trod enc Tryz.prog W base sp hd n 24 cs = some x →
    ∃ (l : List KindT) (v : Value), cs = [v] ∧ Rep (memI W) (.slice (l.map encK)) v ∧ v.oneCell' = true := by
  intro n
  induction n using Nat.strongRecOn with
  | _ n ih =>
    intro cs x h
    obtain ⟨xs, m, rfl, _, hl, hxs, hf⟩ := DataW.trod_struct Tryz.underlying24 h
    rw [cells24] at hl
    obtain ⟨v, rfl⟩ : ∃ v, cs = [v] := by
      match cs, hl with
      | [v], _ => exact ⟨v, rfl⟩
    have h0 := hf 0 { name := "L", type := 22, offset := 0, embedded := false, tag := "", pkgPath := "", byteOffset := 0 } rfl
    simp only [cells22, List.drop_zero] at h0
    rw [List.getElem?_eq_getElem (by rw [hxs]; decide)] at h0
    obtain ⟨l, v', h1, h2, h3⟩ := open_elems (k := .agg 1) Tryz.underlying22 cells24 (by decide) encK (fun m' cs' x' hm h' => by
      obtain ⟨l', v', e1, e2, e3⟩ := ih m' (by omega) cs' x' h'
      refine ⟨KindT.mk l', .agg #[v'], by simp [Value.cells, e1], ?_, by simp only [Sz.okV, Bool.and_eq_true, List.all_eq_true]; exact ⟨rfl, fun z hz => by simp at hz; rw [hz]; exact e3⟩⟩
      rw [encK_mk, Rep]
      exact ⟨#[v'], rfl, by rw [RepL]; exact ⟨v', [], rfl, e2, by rw [RepL]⟩, fun z hz => by simp at hz; rw [hz]; exact e3⟩) h0
    simp at h1
    subst h1
    exact ⟨l, v, rfl, h2, h3⟩

theorem open_con : ∀ (n : Nat) (cs : List Value) (x : DataW H × List MemPlace), DataW.trod enc Tryz.prog W base sp hd n 28 cs = some x →
    ∃ (c : ConT) (u : Value), u.cells.toList = cs ∧ Rep (memI W) (encC c) u ∧ Sz.okV (.agg 6) u = true := by
  intro n
  induction n using Nat.strongRecOn with
  | _ n ih =>
    intro cs x h
    obtain ⟨xs, m, rfl, _, hl, hxs, hf⟩ := DataW.trod_struct Tryz.underlying28 h
    rw [cells28] at hl
    obtain ⟨v0, v1, v2, v3, v4, v5, rfl⟩ : ∃ v0 v1 v2 v3 v4 v5, cs = [v0, v1, v2, v3, v4, v5] := by
      match cs, hl with
      | [v0, v1, v2, v3, v4, v5], _ => exact ⟨v0, v1, v2, v3, v4, v5, rfl⟩
    have g : ∀ i, i < 6 → ∃ y, xs[i]? = some y := fun i hi => ⟨_, List.getElem?_eq_getElem (by rw [hxs]; exact hi)⟩
    obtain ⟨y0, e0⟩ := g 0 (by decide)
    obtain ⟨y1, e1⟩ := g 1 (by decide)
    obtain ⟨y2, e2⟩ := g 2 (by decide)
    obtain ⟨y3, e3⟩ := g 3 (by decide)
    obtain ⟨y4, e4⟩ := g 4 (by decide)
    obtain ⟨y5, e5⟩ := g 5 (by decide)
    have h0 := hf 0 { name := "Op", type := 3, offset := 0, embedded := false, tag := "", pkgPath := "", byteOffset := 0 } rfl
    have h1 := hf 1 { name := "N", type := 3, offset := 1, embedded := false, tag := "", pkgPath := "", byteOffset := 8 } rfl
    have h2 := hf 2 { name := "S", type := 9, offset := 2, embedded := false, tag := "", pkgPath := "", byteOffset := 16 } rfl
    have h3 := hf 3 { name := "Kind", type := 24, offset := 3, embedded := false, tag := "", pkgPath := "", byteOffset := 32 } rfl
    have h4 := hf 4 { name := "Names", type := 25, offset := 4, embedded := false, tag := "", pkgPath := "", byteOffset := 56 } rfl
    have h5 := hf 5 { name := "L", type := 26, offset := 5, embedded := false, tag := "", pkgPath := "", byteOffset := 80 } rfl
    simp only [cells3, cells9, cells24, cells25, cells26, List.drop_succ_cons, List.drop_zero, List.take_succ_cons, List.take_zero, e0, e1, e2, e3, e4, e5] at h0 h1 h2 h3 h4 h5
    obtain ⟨op, k0⟩ := open_i64 h0
    obtain ⟨nn, k1⟩ := open_i64 h1
    obtain ⟨s, us, k2, r2, _⟩ := open_str h2
    obtain ⟨kl, vk, k3, r3, o3⟩ := open_kind _ _ _ h3
    obtain ⟨names, vn, k4, r4, o4⟩ := open_elems (k := .one) Tryz.underlying25 cells9 (by decide) PV.str (fun m' cs' x' hm h' => open_str h') h4
    obtain ⟨l, vl, k5, r5, o5⟩ := open_elems (k := .agg 6) Tryz.underlying26 cells28 (by decide) encC (fun m' cs' x' hm h' => ih m' (by omega) cs' x' h') h5
    rw [Rep] at r2
    subst r2
    simp [Value.cells] at k0 k1 k2 k3 k4 k5
    subst k0 k1 k2 k3 k4 k5
    have hone : ∀ z ∈ #[Value.int .i64 op, .int .i64 nn, .string s, v3, v4, v5].toList, z.oneCell' = true := by
      intro z hz
      simp only [List.mem_cons, List.not_mem_nil, or_false] at hz
      rcases hz with rfl | rfl | rfl | rfl | rfl | rfl
      · rfl
      · rfl
      · rfl
      · exact o3
      · exact o4
      · exact o5
    refine ⟨.mk op nn s kl names l, .agg #[.int .i64 op, .int .i64 nn, .string s, v3, v4, v5], rfl, ?_, ?_⟩
    · rw [encC_mk, Rep]
      refine ⟨_, rfl, ?_, hone⟩
      simp only [RepL, Rep]
      rw [Rep] at r3 r4 r5
      exact ⟨_, _, rfl, rfl, _, _, rfl, rfl, _, _, rfl, rfl, _, _, rfl, r3, _, _, rfl, r4, _, _, rfl, r5, rfl⟩
    · simp only [Sz.okV, Bool.and_eq_true, List.all_eq_true]
      exact ⟨rfl, hone⟩

theorem arg_con {v : Value} {d : DataW H} {ps : List MemPlace} (hv : Value.okWide Tryz.prog W .any base' 28 v) (h : DataW.Trod enc Tryz.prog W base sp hd 28 v d ps) : ∃ c : ConT, Rep (memI W) (encC c) v := by
  obtain ⟨n, hn⟩ := h
  obtain ⟨c, u, h1, h2, h3⟩ := open_con n _ _ hn
  rw [Value.okWide, Tryz.underlying28] at hv
  obtain ⟨cs, rfl, _⟩ := hv
  have hu : u = .agg cs := by
    cases u with
    | agg us => simp [Value.cells] at h1; rw [h1]
    | _ => simp [Sz.okV] at h3
  exact ⟨c, hu ▸ h2⟩
theorem arg_cons {v : Value} {d : DataW H} {ps : List MemPlace} (hv : Value.okWide Tryz.prog W .any base' 26 v) (h : DataW.Trod enc Tryz.prog W base sp hd 26 v d ps) : ∃ l : List ConT, Rep (memI W) (.slice (l.map encC)) v := by
  obtain ⟨n, hn⟩ := h
  obtain ⟨l, u, h1, h2, h3⟩ := open_elems (k := .agg 6) Tryz.underlying26 cells28 (by decide) encC (fun m' cs' x' hm h' => open_con m' cs' x' h') hn
  have hu : u = v := by
    rw [Value.okWide, Tryz.underlying26] at hv
    simp only [Cell.okWide, Tryz.underlying26] at hv
    cases v <;> simp [Cell.ok, Tryz.underlying26] at hv <;> simp [Value.cells] at h1 <;> exact h1.symm
  exact ⟨l, hu ▸ h2⟩
end
end Go.Abs.Kon

namespace Go.Abs.Kon
open Go Go.Proofs Go.Abs Go.ChangeShapes Go.WideShapes Go.ChangeAt Go.RowKit
open Go.Proofs.YtjfegcnjmpedhaaGreatDoor
set_option maxRecDepth 100000
set_option maxHeartbeats 4000000

theorem gER : Tryz.prog.globalNamed "strconv.ErrRange" = some 2 := by kernel_rfl

theorem gERType : (Tryz.prog.globals[2]?).map (·.type) = some 161 := by kernel_rfl

theorem gTab : Tryz.prog.globalNamed "internal/strconv.uint64pow10" = some 3 := by kernel_rfl
theorem gTabType : (Tryz.prog.globals[3]?).map (·.type) = some 202 := by kernel_rfl
theorem glob_tab {W : World} {d3 : DataW Unit} {rest : List (String × DataW Unit)} (h3 : d3 = Lib.tabData .u64 Lib.pow10Tab)
    (h : laidMet Tryz.prog (("internal/strconv.uint64pow10", d3) :: rest) W) : Held 3 W.heap[3]? := by
  subst h3
  have hv := Lib.tabIs_of_head gTab gTabType Tryz.underlying202 Tryz.underlying133 (by kernel_rfl) (by kernel_rfl) h
  unfold Lib.TabIs at hv
  simp only [World.var?, gTab, Option.bind_some] at hv
  split at hv
  · rename_i cs T fr hh
    simp only [Option.some.injEq] at hv
    exact ⟨cs, T, fr, hh, by rw [gcells, if_neg (by decide)]; exact hv⟩
  · cases hv
theorem glob_err {W : World} {nm : String} {d : DataW Unit} {rest : List (String × DataW Unit)}
    (h : laidMet Tryz.prog (("strconv.ErrRange", .iface nm d) :: rest) W) : Held 2 W.heap[2]? := by
  obtain ⟨ps, ⟨g4, t4, cs4, f4, p4, q4, hg, ht, hv, hd, _, _⟩, _⟩ := h
  obtain rfl := Option.some.inj (gER.symm.trans hg)
  obtain rfl := Option.some.inj (gERType.symm.trans ht)
  have hcs : ∃ u v, cs4.toList = [.iface u v] := by
    cases f4 with
    | zero => simp [DataW.trod] at hd
    | succ n =>
      unfold DataW.trod at hd
      generalize cs4.toList = l at hd
      clear hv
      rw [Tryz.underlying161] at hd
      split at hd <;> simp_all
  obtain ⟨u, v, hcs⟩ := hcs
  have e4 : cs4 = #[.iface u v] := by
    cases cs4; simp at hcs; subst hcs; rfl
  subst e4
  simp only [World.var?, hg, Option.bind_some] at hv
  split at hv
  · rename_i cs T fr hh
    simp only [Option.some.injEq] at hv
    exact ⟨_, T, fr, hh, by rw [gcells, if_pos rfl]; exact ⟨u, v, hv⟩⟩
  · cases hv
def GlobW (W : World) : Prop := ∀ g ∈ gvars, Held g W.heap[g]?
theorem glob_of {W : World} {r1 r2 : String × DataW Unit} {d3 : DataW Unit} {nm : String} {d : DataW Unit} {rest : List (String × DataW Unit)} (h3 : d3 = Lib.tabData .u64 Lib.pow10Tab)
    (h : laidMet Tryz.prog (r1 :: r2 :: ("internal/strconv.uint64pow10", d3) :: ("strconv.ErrRange", .iface nm d) :: rest) W) : GlobW W := by
  have h := h.tail.tail
  intro g hg
  simp only [gvars, List.mem_cons, List.not_mem_nil, or_false] at hg
  rcases hg with rfl | rfl
  · exact glob_err (h.tail)
  · exact glob_tab h3 h

theorem post_below {H : Type} {enc : TypeId × Value → H} {P : Program} {f : Func} {s : ChangeSpec} {apart fresh handsOn again : Bool} {W W' : World} {args : Array Value} {v : Value} {ds gs : List (DataW H)} {before pa pv : List MemPlace}
    (hW : DataW.Whole enc P f.params.toList s.vars apart W args.toList ds gs before)
    (hres : ∀ (b : Nat) (sp : Nat → Bool) (hd : Bool), DataW.TrodAll enc P W' b sp hd f.resultTypes.toList (v.resultList f.resultTypes.size) (s.fn H (ds ++ gs)).results [])
    (hargs : ∀ sp : Nat → Bool, (∀ p ∈ before, sp p.block = true) → DataW.TrodAll enc P W' 0 sp true f.params.toList args.toList (s.fn H (ds ++ gs)).args pa)
    (hvars : ∀ sp : Nat → Bool, (∀ p ∈ before, sp p.block = true) → DataW.TrodVars enc P W' sp s.vars (s.fn H (ds ++ gs)).vars pv)
    (hps : before = pa ++ pv) (hB : Below W.heap.size W W')
    (hok : ∀ (j : Nat) (t : TypeId) (r : Value), f.resultTypes[j]? = some t → (v.resultList f.resultTypes.size)[j]? = some r → Value.okWide P W' .any 0 t r) :
    s.post enc P f apart fresh handsOn again W args v W' := by
  have hlt := hW.lt
  have hold : ∀ p ∈ before, (fun b => decide (b < W.heap.size)) p.block = true := fun p hp => by simpa using hlt p hp
  refine ⟨ds, gs, before, [], pa, pv, hW, hres _ _ _, hargs _ hold, hvars _ hold, World.keptBut_mono (fun p hp => ⟨hp, ?_⟩) (hB.frame (· ∈ before)), fun _ => ?_⟩
  · rw [hps, List.mem_append] at hp
    exact Or.inr hp
  · obtain ⟨_, _, _, _, _, hz, hn⟩ := hW
    refine ⟨hok, _, _, ([] ++ pa) ++ pv, ⟨[] ++ pa, pv, trodAll_append (hargs _ (fun _ _ => rfl)) (hres _ _ _), hvars _ (fun _ _ => rfl), rfl, ?_, ?_⟩, ?_⟩
    · intro b off hp
      have hp' : MemPlace.cell b off ∈ before := by rw [hps]; simpa using hp
      rw [hB.frozen (hlt _ hp')]
      exact hz b off hp'
    · intro ha
      have := hn ha
      rw [hps] at this
      simpa using this
    · intro p hp _
      rw [hps]
      simpa using hp

def G0 (W : World) : Gh := ⟨memI W, fun _ => none, fun _ => none, fun _ => 0⟩
theorem inv0 {W : World} (h : GlobW W) : WInv (G0 W) W :=
  ⟨fun _ _ _ h => h, fun _ _ _ h => (nomatch h), fun _ _ h => (nomatch h), fun _ _ h => (nomatch h), fun _ _ h => (nomatch h), fun _ _ _ _ _ h => (nomatch h), fun _ _ _ _ h => (nomatch h), fun g hg => ⟨h g hg, fun _ h => (nomatch h), fun _ _ h => (nomatch h)⟩⟩
theorem run_law {f : FuncId} {svs : List SV} (hS : Spec Tryz.prog f svs [] (.bool true) []) {W : World} (hg : GlobW W) {args : Array Value} (hr : RepSVs (G0 W) [] svs args.toList) :
    Calls Tryz.prog f args W fun e W' => e = .returned (.bool true) ∧ Below W.heap.size W W' := by
  refine (hS.2.2 (G0 W) W args (inv0 hg) (fun t h => absurd rfl h) (fun n h => absurd rfl h) (fun j bx h => by simp at h) hr).mono ?_
  rintro e W' ⟨v, G', he, hv, _, hE, _⟩
  rw [Rep] at hv
  subst hv
  exact ⟨he, hE.os, hE.tape, hE.output, hE.size, fun k hk => hE.heap k hk (fun n _ h => by cases h) (fun ⟨t, tk, _, h, _⟩ => by cases h)⟩
end Go.Abs.Kon

namespace Go.Abs.Kon
open Go Go.Proofs Go.Abs
set_option maxRecDepth 100000
set_option maxHeartbeats 4000000

mutual
theorem kindsF_eq : ∀ (k : KindT) (most depth : Int), kindsF k most depth < most → (knF k : Int) = kindsF k most depth
  | .mk l, most, depth, h => by
    rw [kindsF] at h ⊢
    split at h
    · omega
    · rename_i hd
      rw [if_neg hd, knF]
      have := kindsL_eq l most depth 1 h
      omega
theorem kindsL_eq : ∀ (l : List KindT) (most depth n : Int), kindsL l most depth n < most → n + knL l = kindsL l most depth n
  | [], most, depth, n, h => by
    rw [kindsL] at h ⊢
    rw [knL]
    split at h
    · omega
    · rw [if_neg (by assumption)]; omega
  | x :: r, most, depth, n, h => by
    rw [kindsL] at h ⊢
    split at h
    · omega
    · rename_i hn
      rw [if_neg hn, knL]
      have h2 := kindsL_eq r most depth _ h
      have hlt : kindsF x (most - n) (depth + 1) < most - n := by omega
      have h1 := kindsF_eq x (most - n) (depth + 1) hlt
      omega
end
mutual
theorem nodesF_eq : ∀ (c : ConT) (most depth : Int), 0 ≤ most → nodesF c most depth < most → (wtF c : Int) = nodesF c most depth ∧ okS c
  | .mk op n s k names l, most, depth, h0, h => by
    rw [nodesF] at h ⊢
    split at h
    · omega
    · rename_i hd
      rw [if_neg hd, wtF]
      obtain ⟨h2, h3⟩ := nodesL_eq l most depth _ h
      have hb := nodesL_lb l most depth _ h
      have h1 := kindsF_eq (.mk k) most depth (by omega)
      rw [knF] at h1
      refine ⟨by omega, ?_⟩
      simp only [okS]
      refine ⟨by omega, fun x hx => ?_, h3⟩
      have : ¬ names.any longS = true := fun e => hd (.inr (.inr (.inr e)))
      have hx' : longS x = false := by
        cases hl : longS x with
        | false => rfl
        | true => exact absurd (List.any_eq_true.2 ⟨x, hx, hl⟩) this
      rw [longS] at hx'
      have := of_decide_eq_false hx'
      omega
theorem nodesL_lb : ∀ (l : List ConT) (most depth n : Int), nodesL l most depth n < most → n ≤ nodesL l most depth n
  | [], most, depth, n, h => by
    rw [nodesL] at h ⊢
    split at h
    · omega
    · rw [if_neg (by assumption)]; omega
  | x :: r, most, depth, n, h => by
    rw [nodesL] at h ⊢
    split at h
    · omega
    · rename_i hn
      rw [if_neg hn]
      have h2 := nodesL_lb r most depth _ h
      have := nodesF_le x (most - n) (depth + 1) (by omega)
      omega
theorem nodesL_eq : ∀ (l : List ConT) (most depth n : Int), nodesL l most depth n < most → n + wtL l = nodesL l most depth n ∧ okSs l
  | [], most, depth, n, h => by
    rw [nodesL] at h ⊢
    rw [wtL]
    split at h
    · omega
    · rw [if_neg (by assumption)]
      exact ⟨by omega, by simp only [okSs]⟩
  | x :: r, most, depth, n, h => by
    rw [nodesL] at h ⊢
    split at h
    · omega
    · rename_i hn
      rw [if_neg hn, wtL]
      obtain ⟨h2, h3⟩ := nodesL_eq r most depth _ h
      have hb := nodesL_lb r most depth _ h
      obtain ⟨h1, h4⟩ := nodesF_eq x (most - n) (depth + 1) (by omega) (by omega)
      simp only [okSs]
      exact ⟨by omega, h4, h3⟩
end
theorem small_of {c : ConT} (h : bigP c = false) : wtF c < 400 ∧ okS c := by
  rw [bigP] at h
  simp only [Bool.or_eq_false_iff, Bool.and_eq_false_iff, decide_eq_false_iff_not] at h
  have hle := nodesF_le c 4400 1 (by decide)
  have hlt : nodesF c 4400 1 < 400 := by omega
  obtain ⟨h1, h2⟩ := nodesF_eq c 4400 1 (by decide) (by omega)
  exact ⟨by omega, h2⟩

theorem strEq_refl (s : ByteArray) : strEq s s = true := by rw [strEq]; exact beq_self_eq_true _
mutual
theorem sameK_refl : ∀ k, sameK k k = true
  | .mk l => by rw [sameK]; exact sameKs_refl l
theorem sameKs_refl : ∀ l, sameKs l l = true
  | [] => rfl
  | x :: r => by rw [sameKs, sameK_refl x, sameKs_refl r]; rfl
end
theorem eqL_refl {α : Type} (q : α → α → Bool) (h : ∀ x, q x x = true) : ∀ l, eqL q l l = true
  | [] => rfl
  | x :: r => by rw [eqL, h x, eqL_refl q h r]; rfl
mutual
theorem eqC_refl : ∀ c, eqC c c = true
  | .mk op n s k names l => by
    rw [eqC, beq_self_eq_true, beq_self_eq_true, strEq_refl, sameK_refl, eqL_refl strEq strEq_refl, eqCs_refl l]; rfl
theorem eqCs_refl : ∀ l, eqCs l l = true
  | [] => rfl
  | x :: r => by rw [eqCs, eqC_refl x, eqCs_refl r]; rfl
end

end Go.Abs.Kon
