/- The card of DatatypeOrder. -/
import Derived.Test.YthedhplpgfpodaaGreatDoorTermO
import Derived.Test.YthedhplpgfpodaaGreatDoorDataE
import Derived.Test.YthedhplpgfpodaaGreatDoorKonG
import Derived.Test.YthedhplpgfpodaaGreatDoorOrderLaw
import Derived.LaidMore
set_option linter.unusedSimpArgs false
set_option linter.unusedVariables false
namespace Go.Abs.Kon
open Go Go.Proofs Go.Abs Go.ChangeShapes Go.WideShapes Go.ChangeAt Go.RowKit
open Go.Proofs.YthedhplpgfpodaaGreatDoor
set_option maxRecDepth 100000
set_option maxHeartbeats 4000000
theorem cellsCt : Tryz.prog.cellsOf 40 = 7 := by kernel_rfl
section
variable {H : Type} {enc : TypeId × Value → H} {W : World} {base base' : Nat} {sp : Nat → Bool} {hd : Bool}
theorem open_ctor (n : Nat) (cs : List Value) (x : DataW H × List MemPlace) (h : DataW.trod enc Tryz.prog W base sp hd n 40 cs = some x) :
    ∃ (c : CtT) (u : Value), u.cells.toList = cs ∧ Rep (memI W) (encCt c) u ∧ Sz.okV (.agg 7) u = true ∧ 1 ≤ Rows.uptoBulk x.1 := by
  obtain ⟨xs, m, rfl, hx, hl, hxs, hf⟩ := DataW.trod_struct Tryz.underlying40 h
  rw [cellsCt] at hl
  obtain ⟨v0, v1, v2, v3, v4, v5, v6, rfl⟩ : ∃ v0 v1 v2 v3 v4 v5 v6, cs = [v0, v1, v2, v3, v4, v5, v6] := by
    match cs, hl with
    | [v0, v1, v2, v3, v4, v5, v6], _ => exact ⟨v0, v1, v2, v3, v4, v5, v6, rfl⟩
  obtain ⟨y0, y1, rfl⟩ : ∃ y0 y1, xs = [y0, y1] := by
    match xs, hxs with
    | [y0, y1], _ => exact ⟨y0, y1, rfl⟩
  have h0 := hf 0 { name := "Name", type := 9, offset := 0, embedded := false, tag := "", pkgPath := "", byteOffset := 0 } rfl
  have h1 := hf 1 { name := "Arg", type := 28, offset := 1, embedded := false, tag := "", pkgPath := "", byteOffset := 16 } rfl
  simp only [cells9, cells28, List.drop_succ_cons, List.drop_zero, List.take_succ_cons, List.take_zero, List.getElem?_cons_zero, List.getElem?_cons_succ] at h0 h1
  obtain ⟨s, us, k0, r0, _, _⟩ := open_str_b h0
  obtain ⟨con, uc, kc, rc, oc, _⟩ := open_con_b _ _ _ h1
  obtain ⟨ec, pc⟩ := con_cells rc oc kc
  rw [Rep] at r0
  subst r0
  simp [Value.cells] at k0
  subst k0
  have hone : ∀ z ∈ #[Value.string s, v1, v2, v3, v4, v5, v6].toList, z.oneCell' = true := by
    intro z hz
    rcases List.mem_cons.1 hz with rfl | hz
    · rfl
    · exact pc z hz
  refine ⟨(s, con), .agg #[.string s, v1, v2, v3, v4, v5, v6], rfl, ?_, ?_, bulk_one _⟩
  · rw [encCt, Rep]
    refine ⟨_, rfl, ?_, hone⟩
    rw [RepL]
    exact ⟨.string s, [v1, v2, v3, v4, v5, v6], rfl, by rw [Rep], ec⟩
  · simp only [Sz.okV, Bool.and_eq_true, List.all_eq_true]
    exact ⟨rfl, hone⟩
theorem arg_ctors {v : Value} {d : DataW H} {ps : List MemPlace} (hv : Value.okWide Tryz.prog W .any base' 36 v) (h : DataW.Trod enc Tryz.prog W base sp hd 36 v d ps) : ∃ l : List CtT, Rep (memI W) (.slice (l.map encCt)) v := by
  obtain ⟨n, hn⟩ := h
  haveI : Inhabited CtT := ⟨ct0⟩
  obtain ⟨l, u, h1, h2, h3, h4⟩ := open_elems_b (k := .agg 7) Tryz.underlying36 cellsCt (by decide) encCt (fun _ => 1) (fun m' cs' x' hm h' => open_ctor m' cs' x' h') hn
  have hu : u = v := by
    rw [Value.okWide, Tryz.underlying36] at hv
    simp only [Cell.okWide, Tryz.underlying36] at hv
    cases v <;> simp [Cell.ok, Tryz.underlying36] at hv <;> simp [Value.cells] at h1 <;> exact h1.symm
  exact ⟨l, hu ▸ h2⟩
end
end Go.Abs.Kon

namespace Go.Proofs.YthedhplpgfpodaaGreatDoor.dorder
open Go Go.Proofs Go.Abs Go.Abs.Kon Go.ChangeShapes Go.WideShapes Go.ChangeAt Go.RowKit
set_option maxRecDepth 100000
set_option maxHeartbeats 4000000

theorem own : ownKnob Tryz.prog.godebug = none := by kernel_rfl
theorem laidOut : laidOutB Tryz.prog = true := by kernel_rfl

theorem contract (H : Type) (enc : TypeId × Value → H) (W : World) (base : Nat) (args : Array Value) (ds gs : List (DataW H)) (before : List MemPlace)
    (hval : ∀ (j : Nat) t v, Tryz.f4.params[j]? = some t → args[j]? = some v → Value.okWide Tryz.prog W .any base t v)
    (hW : DataW.Whole enc Tryz.prog Tryz.f4.params.toList Rows.datatypeOrderSpec.vars false W args.toList ds gs before) (hL : laidMetH Tryz.prog Rows.datatypeOrderRow.laid W) :
    Calls Tryz.prog 4 args W fun e W' => ∃ v, e = .returned v ∧ Rows.datatypeOrderSpec.post enc Tryz.prog Tryz.f4 false true false false W args v W' := by
  have hW' := hW
  obtain ⟨p, q, hA0, hV, rfl, hfz, hnd⟩ := hW
  have hA : DataW.TrodAll enc Tryz.prog W 0 (fun _ => true) true Tryz.f4.params.toList args.toList ds p := hA0
  rw [Tryz.params4] at hA hval
  obtain ⟨v0, vs0, d0, ds0, p0, q0, hargs, rfl, rfl, h0, r0⟩ := trodAll_cons hA
  obtain ⟨v1, vs1, d1, ds1, p1, q1, rfl, rfl, rfl, h1, r1⟩ := trodAll_cons r0
  obtain ⟨v2, vs2, d2, ds2, p2, q2, rfl, rfl, rfl, h2, r2⟩ := trodAll_cons r1
  obtain ⟨rfl, rfl, rfl⟩ := trodAll_nil r2
  obtain rfl : args = #[v0, v1, v2] := by cases args; simp_all
  obtain ⟨rfl, rfl⟩ := trodVars_none hV
  clear hA0 hA r0 r1 r2
  simp only [List.append_nil] at hW'
  obtain ⟨a0, ha0⟩ := arg_int (hval 0 3 v0 rfl rfl) h0
  obtain ⟨a1, ha1⟩ := arg_ctors (hval 1 36 v1 rfl rfl) h1
  obtain ⟨a2, ha2, la2, lb2⟩ := arg_u8 (hval 2 5 v2 rfl rfl) h2
  have hg := glob_of (by kernel_rfl) (show laidMet Tryz.prog Rows.datatypeOrderRow.laid W from hL)
  have hrep : RepSVs (G0 W) [] [ii a0, pp (.slice (a1.map encCt)), pp (.int .u8 a2)] #[v0, v1, v2].toList := by
    simp only [RepSVs]
    exact ⟨v0, _, rfl, ha0, ⟨v1, _, rfl, ha1, ⟨v2, _, rfl, ha2, rfl⟩⟩⟩
  refine (run_law (DatatypeOrder_spec a0 a1 a2 la2 lb2) hg hrep).mono ?_
  rintro e W' ⟨rfl, hB⟩
  have hlt := hW'.lt
  exact ⟨_, rfl, post_below (pa := (p0 ++ (p1 ++ (p2 ++ [])))) (pv := []) hW' (fun _ _ _ => trodAll_cons_mk (shut_bool Tryz.underlying4 _) trodAll_mk0)
    (fun sp hsp => (trodAll_cons_mk
      (WideElems.Trod_stays laidOut (by kernel_rfl) (of_decide_eq_true (by kernel_rfl)) h0 (fun x hx => hB.same (hlt x (List.mem_append_left _ hx))) fun x hx => hsp x (List.mem_append_left _ hx))
      (trodAll_cons_mk
      (WideElems.Trod_stays laidOut (by kernel_rfl) (of_decide_eq_true (by kernel_rfl)) h1 (fun x hx => hB.same (hlt x (List.mem_append_right _ (List.mem_append_left _ hx)))) fun x hx => hsp x (List.mem_append_right _ (List.mem_append_left _ hx)))
      (trodAll_cons_mk
      (WideElems.Trod_stays laidOut (by kernel_rfl) (of_decide_eq_true (by kernel_rfl)) h2 (fun x hx => hB.same (hlt x (List.mem_append_right _ (List.mem_append_right _ hx)))) fun x hx => hsp x (List.mem_append_right _ (List.mem_append_right _ hx)))
      trodAll_mk0))))
    (fun _ _ => rfl) (by simp) hB (ok_one (by kernel_rfl) rfl (okWide_bool_mk Tryz.underlying4 _))⟩

def zeroVC : Value := .agg #[.int .i64 0, .int .i64 0, .string ⟨#[]⟩, .slice none 0 0, .slice none 0 0, .slice none 0 0]
def zeroDC (H : Type) : DataW H := .agg [.lit (.int .i64 0), .lit (.int .i64 0), .lit (.string []), .agg [.nil], .nil, .nil]
noncomputable def laidWorld (os : Os) : World := World.doorLaid Tryz.prog 400 os
theorem laid_met (os : Os) : laidMet Tryz.prog Rows.datatypeOrderRow.laid ((laidWorld os).forCall (fun _ _ => 0) ⟨#[], #[.int .i64 0, .slice none 0 0, .int .u8 0], []⟩).memory :=
  laidMet_of_run' 8 (by kernel_rfl) (by kernel_rfl)
theorem reads (os : Os) {H : Type} (enc : TypeId × Value → H) : DataW.whole enc Tryz.prog ((laidWorld os).forCall (fun _ _ => 0) ⟨#[], #[.int .i64 0, .slice none 0 0, .int .u8 0], []⟩).memory Tryz.f4.params.toList Rows.datatypeOrderSpec.vars false (#[.int .i64 0, .slice none 0 0, .int .u8 0] : Array Value).toList 8 = some ([.lit (.int .i64 0), .nil, .lit (.int .u8 0)], [], []) := by kernel_rfl

theorem lifted (os : Os) (started : os.Started) (H : Type) (enc : TypeId × Value → H) (F : Stop.Interp) :
    ReturnsInHanded {} Tryz.checked os 4 .any ((OpenSpec.ofChange Rows.datatypeOrderSpec).preRow enc Tryz.prog Tryz.f4 Rows.datatypeOrderRow.domain false Rows.datatypeOrderRow.laid) (((OpenSpec.ofChange Rows.datatypeOrderSpec).at F).post enc Tryz.prog Tryz.f4 false true false false) := by
  have hx := reads os enc
  refine returnsInHanded_of_row (C := Tryz.checked) (s := OpenSpec.ofChange Rows.datatypeOrderSpec) own started (by kernel_rfl) Tryz.func4
    (witness_row_at (enc := enc) (C := Tryz.checked) false (laidWorld os) #[.int .i64 0, .slice none 0 0, .int .u8 0] rfl (by kernel_rfl) (by kernel_rfl) (by kernel_rfl)
      (OpenSpec.preRow_of_cond 8 hx (by kernel_rfl) (fun k hk => by cases hk) (by kernel_rfl) (laid_met os))) ?_
  intro W base args ds gs before hval hW _ _ _ hL _ _
  exact contract H enc W base args ds gs before hval hW hL

theorem and_t {a b : Bool} (ha : a = true) (hb : b = true) : (a && b) = true := by rw [ha, hb]; rfl
theorem jA : (Rows.datatypeOrderRow.inPlace == Tryz.prog.inPlace 4) = true := by kernel_rfl
theorem jB : (Rows.datatypeOrderRow.unfollowed == Tryz.prog.unfollowed 4) = true := by kernel_rfl
theorem jC : (Rows.datatypeOrderRow.recurses == Tryz.prog.recurses 4) = true := by kernel_rfl
theorem jD : (Rows.datatypeOrderRow.named == Tryz.prog.varsNamed 4) = true := by kernel_rfl
theorem jE : laidOutB Tryz.prog = true := by kernel_rfl
theorem jF : mapsRowed Tryz.prog = true := by kernel_rfl
theorem jG : (Rows.datatypeOrderRow.plainKeys == Tryz.prog.plainKeys) = true := by kernel_rfl
theorem jH : Tryz.prog.stopsHeard = true := by kernel_rfl
theorem jI : Tryz.prog.mayEnter = true := by kernel_rfl
theorem jJ : (Rows.datatypeOrderRow.lifted == Tryz.prog.liftsFinal) = true := by kernel_rfl
theorem jK : (Rows.datatypeOrderRow.pinned == Rows.datatypeOrderRow.pinnedBy) = true := by kernel_rfl
theorem joined : joinedFacts Tryz.prog 4 Tryz.f4 (OpenSpec.ofChange Rows.datatypeOrderSpec).bare Rows.datatypeOrderRow = true := by
  unfold joinedFacts
  repeat' (with_reducible apply and_t)
  all_goals first | with_reducible exact jA | with_reducible exact jB | with_reducible exact jC | with_reducible exact jD | with_reducible exact jE | with_reducible exact jF | with_reducible exact jG | with_reducible exact jH | with_reducible exact jI | with_reducible exact jJ | with_reducible exact jK | (as_aux_lemma => kernel_rfl)
theorem said : Rows.DatatypeOrderSaid :=
  OpenClaim.holds_of_cond 4 Tryz.f4 rfl rfl rfl rfl rfl rfl rfl ⟨rfl, rfl, rfl, rfl, rfl⟩ rfl rfl rfl rfl rfl (by kernel_rfl) Tryz.func4 joined
    (of_decide_eq_true (by kernel_rfl)) (by unfold Func.isWrapper; first | (rw [if_pos (by decide +kernel)]; kernel_rfl) | (rw [if_neg (by decide +kernel)]; exact ⟨rfl, rfl⟩))
    (fun os started H enc _ F => by rw [OpenClaim.pre_eq_preRow]; exact lifted os started H enc F)

theorem plain (f : FuncId) (fn : Func) (hf : Tryz.pinned.checked.prog.funcNamed Rows.datatypeOrderRow.func = some f) (hfn : Tryz.pinned.checked.prog.funcs[f]? = some fn) :
    true = Tryz.pinned.checked.prog.looks [] ∧ ∀ (j : Nat) t, fn.params[j]? = some t → Tryz.pinned.checked.prog.wantsStandIn t = false := by
  obtain rfl : f = 4 := Option.some.inj ((show Tryz.prog.funcNamed Rows.datatypeOrderRow.func = some 4 by kernel_rfl).symm.trans hf) |>.symm
  obtain rfl : fn = Tryz.f4 := (Option.some.inj (Tryz.func4.symm.trans hfn)).symm
  refine ⟨by kernel_rfl, fun j t ht => ?_⟩
  rw [Tryz.params4] at ht
  have hm : t = 3 ∨ t = 36 ∨ t = 5 := by
    have h1 := Array.mem_of_getElem? ht
    simp at h1
    first | exact h1 | (rcases h1 with h1 | h1 <;> simp [h1]) | (rcases h1 with h1 | h1 | h1 <;> simp [h1]) | (rcases h1 with h1 | h1 | h1 | h1 | h1 <;> simp [h1])
  rcases hm with rfl | rfl | rfl
  · exact (show Tryz.prog.wantsStandIn 3 = false by kernel_rfl)
  · exact (show Tryz.prog.wantsStandIn 36 = false by kernel_rfl)
  · exact (show Tryz.prog.wantsStandIn 5 = false by kernel_rfl)

theorem card : Rows.DatatypeOrderCardSaid :=
  Claim7.holds_tied_plain_at .later [] _ _ _ _ said (fun _ h => by cases h) (by kernel_rfl) (fun _ h => by cases h) datatypeOrder_row_tie rfl ⟨rfl, rfl⟩ (by kernel_rfl) rfl plain (by kernel_rfl)
#print axioms card
end Go.Proofs.YthedhplpgfpodaaGreatDoor.dorder
