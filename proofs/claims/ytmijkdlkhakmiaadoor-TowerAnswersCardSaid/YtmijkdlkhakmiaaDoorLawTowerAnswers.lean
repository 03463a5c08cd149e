/- TowerAnswers: the row, out of the law's contract and of what it computes. No condition beyond the statement's own. -/
import Derived.Test.YtmijkdlkhakmiaaDoorRows
import Derived.Test.YtmijkdlkhakmiaaDoorOpen
import Derived.Test.YtmijkdlkhakmiaaDoorCards
import Derived.Test.YtmijkdlkhakmiaaDoorTie
import Derived.Test.YtmijkdlkhakmiaaDoorTabs
import Derived.Test.YtmijkdlkhakmiaaDoorTowG
set_option linter.unusedVariables false
set_option linter.unusedSimpArgs false
namespace Go.Proofs.YtmijkdlkhakmiaaDoor.lawTowerAnswers
open Go Go.ChangeShapes Go.WideShapes Go.ChangeAt Go.RowKit
theorem own : ownKnob Tryd.prog.godebug = none := by kernel_rfl
theorem lOut : laidOutB Tryd.prog = true := by kernel_rfl
theorem parOk : ∀ t ∈ Tryd.f4.params.toList, Tryd.prog.readableRec t = true ∧ t < Tryd.prog.types.size := by
  intro t ht
  rw [Tryd.params4] at ht
  simp at ht
  rcases ht with rfl | rfl | rfl
  all_goals exact ⟨by kernel_rfl, of_decide_eq_true (by kernel_rfl)⟩
theorem code0 : tyC Tryd.prog 9 27 (.pr (.sl (.i .i64)) (.pr (.sl (.i .i64)) (.sl (.sl (.i .i64))))) = true := by kernel_rfl
theorem code1 : tyC Tryd.prog 9 27 (.pr (.sl (.i .i64)) (.pr (.sl (.i .i64)) (.sl (.sl (.i .i64))))) = true := by kernel_rfl
theorem code2 : tyC Tryd.prog 9 3 (.i .i64) = true := by kernel_rfl
theorem agg0 : aggB Tryd.prog 27 = true := by kernel_rfl
theorem agg1 : aggB Tryd.prog 27 = true := by kernel_rfl
theorem agg2 : aggB Tryd.prog 3 = false := by kernel_rfl
theorem res (N : Nat) : (c_law14_TowerAnswers N).R true = .sc .b true := by kernel_rfl
theorem contract (H : Type) (enc : TypeId × Value → H) (W : World) (base : Nat) (args : Array Value) (ds gs : List (DataW H)) (before : List MemPlace)
    (hval : ∀ (j : Nat) t v, Tryd.f4.params[j]? = some t → args[j]? = some v → Value.okWide Tryd.prog W .any base t v)
    (hW : DataW.Whole enc Tryd.prog Tryd.f4.params.toList Rows.towerAnswersSpec.vars false W args.toList ds gs before) (hL : laidMetH Tryd.prog Rows.towerAnswersRow.laid W) :
    Calls Tryd.prog 4 args W fun e W' => ∃ v, e = .returned v ∧ Rows.towerAnswersSpec.post enc Tryd.prog Tryd.f4 false true false false W args v W' := by
  have hW' := hW
  obtain ⟨p, q, hA0, hV, rfl, hfz, hnd⟩ := hW
  have hA : DataW.TrodAll enc Tryd.prog W 0 (fun _ => true) true Tryd.f4.params.toList args.toList ds p := hA0
  have hval2 := hval
  rw [Tryd.params4] at hA hval
  obtain ⟨v0, vs0, d0, ds0, p0, q0, hargs, rfl, rfl, h0, r0⟩ := trodAll_cons hA
  obtain ⟨v1, vs1, d1, ds1, p1, q1, rfl, rfl, rfl, h1, r1⟩ := trodAll_cons r0
  obtain ⟨v2, vs2, d2, ds2, p2, q2, rfl, rfl, rfl, h2, r2⟩ := trodAll_cons r1
  obtain ⟨rfl, rfl, rfl⟩ := trodAll_nil r2
  obtain rfl : args = #[v0, v1, v2] := by cases args; simp_all
  obtain ⟨rfl, rfl⟩ := trodVars_none hV
  refine law_post lOut rfl parOk rfl Tryd.underlying4 hW' rfl ?_
  clear hW' hA0 hval2
  obtain ⟨y0, f0, a0, b0⟩ := open_arg code0 (hval 0 27 v0 rfl rfl) h0
  obtain ⟨y1, f1, a1, b1⟩ := open_arg code1 (hval 1 27 v1 rfl rfl) h1
  obtain ⟨y2, f2, a2, b2⟩ := open_arg code2 (hval 2 3 v2 rfl rfl) h2
  obtain ⟨N, hN⟩ : ∃ N, Fu + 20 ≤ N := ⟨_, Nat.le_refl _⟩
  have hm : m_law14_TowerAnswers N (y0.1, y0.2.1, y0.2.2, y1.1, y1.2.1, y1.2.2, y2) = some true := towerAnswers_eq N (by omega) _ _ _ _ _ _ _ ⟨f0.1.1, f0.2.1.1, f0.2.2.1, fun x h => (f0.2.2.2 x h).1⟩ ⟨f1.1.1, f1.2.1.1, f1.2.2.1, fun x h => (f1.2.2.2 x h).1⟩
  have hc := c_law14_TowerAnswers_ok N
  have hr := res N
  unfold c_law14_TowerAnswers at hc hr
  refine calls_of_ctr hc hm (tabs_of_laid hL) (vs := [v0, v1, v2]) ?_ hr rfl
  · exact LR.cons (a0 agg0) (LR.cons (a1 agg1) (LR.cons (b2 agg2) (LR.nil)))
theorem laid_met (os : Os) : laidMet Tryd.prog Rows.towerAnswersRow.laid ((laidWorld os).forCall (fun _ _ => 0) ⟨#[], #[.agg #[.slice none 0 0, .slice none 0 0, .slice none 0 0], .agg #[.slice none 0 0, .slice none 0 0, .slice none 0 0], .int .i64 0], []⟩).memory :=
  laidMet_of_run' 8 (by kernel_rfl) (by kernel_rfl)
theorem reads (os : Os) {H : Type} (enc : TypeId × Value → H) : ∃ places, DataW.whole enc Tryd.prog ((laidWorld os).forCall (fun _ _ => 0) ⟨#[], #[.agg #[.slice none 0 0, .slice none 0 0, .slice none 0 0], .agg #[.slice none 0 0, .slice none 0 0, .slice none 0 0], .int .i64 0], []⟩).memory Tryd.f4.params.toList Rows.towerAnswersSpec.vars false (#[.agg #[.slice none 0 0, .slice none 0 0, .slice none 0 0], .agg #[.slice none 0 0, .slice none 0 0, .slice none 0 0], .int .i64 0] : Array Value).toList 8 = some ([.agg [.nil, .nil, .nil], .agg [.nil, .nil, .nil], .lit (.int .i64 0)], [], places) :=
  ⟨[], by kernel_rfl⟩
set_option maxRecDepth 100000 in
theorem lifted (os : Os) (started : os.Started) (H : Type) (enc : TypeId × Value → H) (F : Stop.Interp) :
    ReturnsInHanded {} Tryd.checked os 4 .any ((OpenSpec.ofChange Rows.towerAnswersSpec).preRow enc Tryd.prog Tryd.f4 Rows.towerAnswersRow.domain false Rows.towerAnswersRow.laid) (((OpenSpec.ofChange Rows.towerAnswersSpec).at F).post enc Tryd.prog Tryd.f4 false true false false) := by
  obtain ⟨places, hx⟩ := reads os enc
  refine returnsInHanded_of_row (C := Tryd.checked) (s := (OpenSpec.ofChange Rows.towerAnswersSpec)) own started (by kernel_rfl) Tryd.func4
    (witness_row_at (enc := enc) (C := Tryd.checked) false (laidWorld os) #[.agg #[.slice none 0 0, .slice none 0 0, .slice none 0 0], .agg #[.slice none 0 0, .slice none 0 0, .slice none 0 0], .int .i64 0] rfl (by kernel_rfl) (by kernel_rfl) (by kernel_rfl)
      (OpenSpec.preRow_of_cond 8 hx (by kernel_rfl) (fun k hk => by cases hk) (by kernel_rfl) (laid_met os))) ?_
  intro W base args ds gs before hval hW _ hcond _ hL _ _
  exact contract H enc W base args ds gs before hval hW hL
theorem said : Rows.TowerAnswersSaid :=
  OpenClaim.holds_of_cond 4 Tryd.f4 rfl rfl rfl rfl rfl rfl rfl ⟨rfl, rfl, rfl, rfl, rfl⟩ rfl rfl rfl rfl rfl (by kernel_rfl) Tryd.func4 (by kernel_rfl)
    (of_decide_eq_true (by kernel_rfl)) (by unfold Func.isWrapper; first | (rw [if_pos (by decide +kernel)]; kernel_rfl) | (rw [if_neg (by decide +kernel)]; exact ⟨rfl, rfl⟩))
    (fun os started H enc _ F => by rw [OpenClaim.pre_eq_preRow]; exact lifted os started H enc F)
theorem plain (f : FuncId) (fn : Func) (hf : Tryd.pinned.checked.prog.funcNamed Tryd.f4.name = some f) (hfn : Tryd.pinned.checked.prog.funcs[f]? = some fn) :
    false = Tryd.pinned.checked.prog.looks [] ∧ ∀ (j : Nat) t, fn.params[j]? = some t → Tryd.pinned.checked.prog.wantsStandIn t = false := by
  obtain rfl : f = 4 := Option.some.inj ((show Tryd.prog.funcNamed Tryd.f4.name = some 4 by kernel_rfl).symm.trans hf) |>.symm
  obtain rfl : fn = Tryd.f4 := (Option.some.inj (Tryd.func4.symm.trans hfn)).symm
  refine ⟨by kernel_rfl, fun j t ht => ?_⟩
  rw [Tryd.params4] at ht
  have hm := Array.mem_of_getElem? ht
  simp at hm
  rcases hm with rfl | rfl | rfl
  all_goals exact (show Tryd.prog.wantsStandIn _ = false by kernel_rfl)
theorem card : Rows.TowerAnswersCardSaid :=
  Claim7.holds_tied_plain_at .later [] _ _ _ _ said (fun _ h => by cases h) (by kernel_rfl) (fun _ h => by cases h) towerAnswers_row_tie rfl ⟨rfl, rfl⟩ (by kernel_rfl) rfl plain (by kernel_rfl)
end Go.Proofs.YtmijkdlkhakmiaaDoor.lawTowerAnswers
