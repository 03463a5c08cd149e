/- WholeSteps: the seat's texts as one (25 of 24; printed by wip/prune.py). -/
import Derived.Test.YtpccioglcgobkaaGreatDoorZWholeSteps24
set_option linter.unusedVariables false
set_option linter.unusedSimpArgs false
noncomputable section
namespace Go.Proofs.YtpccioglcgobkaaGreatDoor.lawWholeSteps
open Go Go.ChangeShapes Go.WideShapes Go.ChangeAt Go.RowKit
theorem own : ownKnob Tryz.prog.godebug = none := by kernel_rfl
theorem lOut : laidOutB Tryz.prog = true := by kernel_rfl
theorem parOk : ∀ t ∈ Tryz.f3.params.toList, Tryz.prog.readableRec t = true ∧ t < Tryz.prog.types.size := by
 intro t ht
 rw [Tryz.params3] at ht
 simp at ht
 rcases ht with rfl | rfl
 all_goals exact ⟨by kernel_rfl, of_decide_eq_true (by kernel_rfl)⟩
theorem code0 : tyC Tryz.prog 9 22 (.pr (.i .u8) (.pr (.i .u8) (.i .u8))) = true := by kernel_rfl
theorem code1 : tyC Tryz.prog 9 23 (.sl (.pr (.i .i64) (.i .i64))) = true := by kernel_rfl
theorem agg0 : aggB Tryz.prog 22 = true := by kernel_rfl
theorem agg1 : aggB Tryz.prog 23 = false := by kernel_rfl
theorem res (N : Nat) : (c_u10 N).el true EV (fun e _ => some e) = some (.sc .b true) := by kernel_rfl
set_option maxRecDepth 100000 in
theorem contract (H : Type) (enc : TypeId × Value → H) (W : World) (base : Nat) (args : Array Value) (ds gs : List (DataW H)) (before : List MemPlace)
 (hval : ∀ (j : Nat) t v, Tryz.f3.params[j]? = some t → args[j]? = some v → Value.okWide Tryz.prog W .any base t v)
 (hW : DataW.Whole enc Tryz.prog Tryz.f3.params.toList Rows.wholeStepsSpec.vars false W args.toList ds gs before) (hL : laidMetH Tryz.prog Rows.wholeStepsRow.laid W) :
 Calls Tryz.prog 3 args W fun e W' => ∃ v, e = .returned v ∧ Rows.wholeStepsSpec.post enc Tryz.prog Tryz.f3 false true false false W args v W' := by
 have hW' := hW
 obtain ⟨p, q, hA0, hV, rfl, hfz, hnd⟩ := hW
 have hA : DataW.TrodAll enc Tryz.prog W 0 (fun _ => true) true Tryz.f3.params.toList args.toList ds p := hA0
 have hval2 := hval
 rw [Tryz.params3] at hA hval
 obtain ⟨v0, vs0, d0, ds0, p0, q0, hargs, rfl, rfl, h0, r0⟩ := trodAll_cons hA
 obtain ⟨v1, vs1, d1, ds1, p1, q1, rfl, rfl, rfl, h1, r1⟩ := trodAll_cons r0
 obtain ⟨rfl, rfl, rfl⟩ := trodAll_nil r1
 obtain rfl : args = #[v0, v1] := by cases args; simp_all
 obtain ⟨rfl, rfl⟩ := trodVars_none hV
 refine law_post lOut rfl parOk rfl Tryz.underlying4 hW' rfl ?_
 clear hW' hA0 hval2
 obtain ⟨y0, f0, a0, b0⟩ := open_arg code0 (hval 0 22 v0 rfl rfl) h0
 obtain ⟨y1, f1, a1, b1⟩ := open_arg code1 (hval 1 23 v1 rfl rfl) h1
 obtain ⟨N, hN⟩ : ∃ N, Fu + 20 ≤ N := ⟨_, Nat.le_refl _⟩
 have hm : m_u10 N (y0.1, y0.2.1, y0.2.2, y1) = some true := wholeSteps_eq (by omega) _ _ _ (fits_u8 f0.1).1 (fits_u8 f0.1).2 (fits_u8 f0.2.1).1 (fits_u8 f0.2.1).2 (fits_u8 f0.2.2).1 (fits_u8 f0.2.2).2 _
 have hc := c_u10_ok N
 have hr := res N
 unfold c_u10 at hc hr
 refine calls_of_ctr hc hm (tabs_of_laid hL) (vs := [v0, v1]) ?_ hr rfl
 · exact LR.cons (a0 agg0) (LR.cons (b1 agg1) (LR.nil))
theorem laid_met (os : Os) : laidMet Tryz.prog Rows.wholeStepsRow.laid ((laidWorld os).forCall (fun _ _ => 0) ⟨#[], #[.agg #[.int .u8 0, .int .u8 0, .int .u8 0], .slice none 0 0], []⟩).memory :=
 laidMet_of_run' 8 (by kernel_rfl) (by kernel_rfl)
theorem reads (os : Os) {H : Type} (enc : TypeId × Value → H) : ∃ places, DataW.whole enc Tryz.prog ((laidWorld os).forCall (fun _ _ => 0) ⟨#[], #[.agg #[.int .u8 0, .int .u8 0, .int .u8 0], .slice none 0 0], []⟩).memory Tryz.f3.params.toList Rows.wholeStepsSpec.vars false (#[.agg #[.int .u8 0, .int .u8 0, .int .u8 0], .slice none 0 0] : Array Value).toList 8 = some ([.agg [.lit (.int .u8 0), .lit (.int .u8 0), .lit (.int .u8 0)], .nil], [], places) :=
 ⟨[], by kernel_rfl⟩
set_option maxRecDepth 100000 in
theorem lifted (os : Os) (started : os.Started) (H : Type) (enc : TypeId × Value → H) (F : Stop.Interp) :
 ReturnsInHanded {} Tryz.checked os 3 .any ((OpenSpec.ofChange Rows.wholeStepsSpec).preRow enc Tryz.prog Tryz.f3 Rows.wholeStepsRow.domain false Rows.wholeStepsRow.laid) (((OpenSpec.ofChange Rows.wholeStepsSpec).at F).post enc Tryz.prog Tryz.f3 false true false false) := by
 obtain ⟨places, hx⟩ := reads os enc
 refine returnsInHanded_of_row (C := Tryz.checked) (s := (OpenSpec.ofChange Rows.wholeStepsSpec)) own started (by kernel_rfl) Tryz.func3
  (witness_row_at (enc := enc) (C := Tryz.checked) false (laidWorld os) #[.agg #[.int .u8 0, .int .u8 0, .int .u8 0], .slice none 0 0] rfl (by kernel_rfl) (by kernel_rfl) (by kernel_rfl)
   (OpenSpec.preRow_of_cond 8 hx (by kernel_rfl) (fun k hk => by cases hk) (by kernel_rfl) (laid_met os))) ?_
 intro W base args ds gs before hval hW _ hcond _ hL _ _
 exact contract H enc W base args ds gs before hval hW hL
theorem said : Rows.WholeStepsSaid :=
 OpenClaim.holds_of_cond 3 Tryz.f3 rfl rfl rfl rfl rfl rfl rfl ⟨rfl, rfl, rfl, rfl, rfl⟩ rfl rfl rfl rfl rfl (by kernel_rfl) Tryz.func3 (by kernel_rfl)
  (of_decide_eq_true (by kernel_rfl)) (by unfold Func.isWrapper; first | (rw [if_pos (by decide +kernel)]; kernel_rfl) | (rw [if_neg (by decide +kernel)]; exact ⟨rfl, rfl⟩))
  (fun os started H enc _ F => by rw [OpenClaim.pre_eq_preRow]; exact lifted os started H enc F)
theorem plain (f : FuncId) (fn : Func) (hf : Tryz.pinned.checked.prog.funcNamed Tryz.f3.name = some f) (hfn : Tryz.pinned.checked.prog.funcs[f]? = some fn) :
 true = Tryz.pinned.checked.prog.looks [] ∧ ∀ (j : Nat) t, fn.params[j]? = some t → Tryz.pinned.checked.prog.wantsStandIn t = false := by
 obtain rfl : f = 3 := Option.some.inj ((show Tryz.prog.funcNamed Tryz.f3.name = some 3 by kernel_rfl).symm.trans hf) |>.symm
 obtain rfl : fn = Tryz.f3 := (Option.some.inj (Tryz.func3.symm.trans hfn)).symm
 refine ⟨by kernel_rfl, fun j t ht => ?_⟩
 rw [Tryz.params3] at ht
 have hm := Array.mem_of_getElem? ht
 simp at hm
 rcases hm with rfl | rfl
 all_goals exact (show Tryz.prog.wantsStandIn _ = false by kernel_rfl)
theorem card : Rows.WholeStepsCardSaid :=
 Claim7.holds_tied_plain_at .later [] _ _ _ _ said (fun _ h => by cases h) (by kernel_rfl) (fun _ h => by cases h) wholeSteps_row_tie rfl ⟨rfl, rfl⟩ (by kernel_rfl) rfl plain (by kernel_rfl)
end Go.Proofs.YtpccioglcgobkaaGreatDoor.lawWholeSteps
end
