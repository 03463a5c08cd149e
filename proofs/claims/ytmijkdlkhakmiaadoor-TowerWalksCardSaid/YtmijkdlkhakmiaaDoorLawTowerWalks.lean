/- TowerWalks: the row, out of the law's contract and of what it computes. No condition beyond the statement's own. -/
import Derived.Test.YtmijkdlkhakmiaaDoorRows
import Derived.Test.YtmijkdlkhakmiaaDoorOpen
import Derived.Test.YtmijkdlkhakmiaaDoorCards
import Derived.Test.YtmijkdlkhakmiaaDoorTie
import Derived.Test.YtmijkdlkhakmiaaDoorTabs
import Derived.Test.YtmijkdlkhakmiaaDoorTowJ
set_option linter.unusedVariables false
set_option linter.unusedSimpArgs false
namespace Go.Proofs.YtmijkdlkhakmiaaDoor.lawTowerWalks
open Go Go.ChangeShapes Go.WideShapes Go.ChangeAt Go.RowKit
theorem own : ownKnob Tryd.prog.godebug = none := by kernel_rfl
theorem lOut : laidOutB Tryd.prog = true := by kernel_rfl
theorem parOk : ∀ t ∈ Tryd.f6.params.toList, Tryd.prog.readableRec t = true ∧ t < Tryd.prog.types.size := by
  intro t ht
  rw [Tryd.params6] at ht
  simp at ht
  rcases ht with rfl | rfl | rfl
  all_goals exact ⟨by kernel_rfl, of_decide_eq_true (by kernel_rfl)⟩
theorem code0 : tyC Tryd.prog 9 22 (.sl (.i .i64)) = true := by kernel_rfl
theorem code1 : tyC Tryd.prog 9 22 (.sl (.i .i64)) = true := by kernel_rfl
theorem code2 : tyC Tryd.prog 9 5 (.i .u8) = true := by kernel_rfl
theorem agg0 : aggB Tryd.prog 22 = false := by kernel_rfl
theorem agg1 : aggB Tryd.prog 22 = false := by kernel_rfl
theorem agg2 : aggB Tryd.prog 5 = false := by kernel_rfl
theorem res (N : Nat) : (c_law14_TowerWalks N).R true = .sc .b true := by kernel_rfl
theorem contract (H : Type) (enc : TypeId × Value → H) (W : World) (base : Nat) (args : Array Value) (ds gs : List (DataW H)) (before : List MemPlace)
    (hval : ∀ (j : Nat) t v, Tryd.f6.params[j]? = some t → args[j]? = some v → Value.okWide Tryd.prog W .any base t v)
    (hW : DataW.Whole enc Tryd.prog Tryd.f6.params.toList Rows.towerWalksSpec.vars false W args.toList ds gs before) (hL : laidMetH Tryd.prog Rows.towerWalksRow.laid W) :
    Calls Tryd.prog 6 args W fun e W' => ∃ v, e = .returned v ∧ Rows.towerWalksSpec.post enc Tryd.prog Tryd.f6 false true false false W args v W' := by
  have hW' := hW
  obtain ⟨p, q, hA0, hV, rfl, hfz, hnd⟩ := hW
  have hA : DataW.TrodAll enc Tryd.prog W 0 (fun _ => true) true Tryd.f6.params.toList args.toList ds p := hA0
  have hval2 := hval
  rw [Tryd.params6] at hA hval
  obtain ⟨v0, vs0, d0, ds0, p0, q0, hargs, rfl, rfl, h0, r0⟩ := trodAll_cons hA
  obtain ⟨v1, vs1, d1, ds1, p1, q1, rfl, rfl, rfl, h1, r1⟩ := trodAll_cons r0
  obtain ⟨v2, vs2, d2, ds2, p2, q2, rfl, rfl, rfl, h2, r2⟩ := trodAll_cons r1
  obtain ⟨rfl, rfl, rfl⟩ := trodAll_nil r2
  obtain rfl : args = #[v0, v1, v2] := by cases args; simp_all
  obtain ⟨rfl, rfl⟩ := trodVars_none hV
  refine law_post lOut rfl parOk rfl Tryd.underlying4 hW' rfl ?_
  clear hW' hA0 hval2
  obtain ⟨y0, f0, a0, b0⟩ := open_arg code0 (hval 0 22 v0 rfl rfl) h0
  obtain ⟨y1, f1, a1, b1⟩ := open_arg code1 (hval 1 22 v1 rfl rfl) h1
  obtain ⟨y2, f2, a2, b2⟩ := open_arg code2 (hval 2 5 v2 rfl rfl) h2
  obtain ⟨N, hN⟩ : ∃ N, Fu + 20 ≤ N := ⟨_, Nat.le_refl _⟩
  have hm : m_law14_TowerWalks N (y0, y1, y2) = some true := towerWalks_eq N (by omega) _ _ _ f0.1 f1.1 (fits_u8 f2).1 (fits_u8 f2).2
  have hc := c_law14_TowerWalks_ok N
  have hr := res N
  unfold c_law14_TowerWalks at hc hr
  refine calls_of_ctr hc hm (tabs_of_laid hL) (vs := [v0, v1, v2]) ?_ hr rfl
  · exact LR.cons (b0 agg0) (LR.cons (b1 agg1) (LR.cons (b2 agg2) (LR.nil)))
theorem laid_met (os : Os) : laidMet Tryd.prog Rows.towerWalksRow.laid ((laidWorld os).forCall (fun _ _ => 0) ⟨#[], #[.slice none 0 0, .slice none 0 0, .int .u8 0], []⟩).memory :=
  laidMet_of_run' 8 (by kernel_rfl) (by kernel_rfl)
theorem reads (os : Os) {H : Type} (enc : TypeId × Value → H) : ∃ places, DataW.whole enc Tryd.prog ((laidWorld os).forCall (fun _ _ => 0) ⟨#[], #[.slice none 0 0, .slice none 0 0, .int .u8 0], []⟩).memory Tryd.f6.params.toList Rows.towerWalksSpec.vars false (#[.slice none 0 0, .slice none 0 0, .int .u8 0] : Array Value).toList 8 = some ([.nil, .nil, .lit (.int .u8 0)], [], places) :=
  ⟨[], by kernel_rfl⟩
set_option maxRecDepth 100000 in
theorem lifted (os : Os) (started : os.Started) (H : Type) (enc : TypeId × Value → H) (F : Stop.Interp) :
    ReturnsInHanded {} Tryd.checked os 6 .any ((OpenSpec.ofChange Rows.towerWalksSpec).preRow enc Tryd.prog Tryd.f6 Rows.towerWalksRow.domain false Rows.towerWalksRow.laid) (((OpenSpec.ofChange Rows.towerWalksSpec).at F).post enc Tryd.prog Tryd.f6 false true false false) := by
  obtain ⟨places, hx⟩ := reads os enc
  refine returnsInHanded_of_row (C := Tryd.checked) (s := (OpenSpec.ofChange Rows.towerWalksSpec)) own started (by kernel_rfl) Tryd.func6
    (witness_row_at (enc := enc) (C := Tryd.checked) false (laidWorld os) #[.slice none 0 0, .slice none 0 0, .int .u8 0] rfl (by kernel_rfl) (by kernel_rfl) (by kernel_rfl)
      (OpenSpec.preRow_of_cond 8 hx (by kernel_rfl) (fun k hk => by cases hk) (by kernel_rfl) (laid_met os))) ?_
  intro W base args ds gs before hval hW _ hcond _ hL _ _
  exact contract H enc W base args ds gs before hval hW hL
theorem said : Rows.TowerWalksSaid :=
  OpenClaim.holds_of_cond 6 Tryd.f6 rfl rfl rfl rfl rfl rfl rfl ⟨rfl, rfl, rfl, rfl, rfl⟩ rfl rfl rfl rfl rfl (by kernel_rfl) Tryd.func6 (by kernel_rfl)
    (of_decide_eq_true (by kernel_rfl)) (by unfold Func.isWrapper; first | (rw [if_pos (by decide +kernel)]; kernel_rfl) | (rw [if_neg (by decide +kernel)]; exact ⟨rfl, rfl⟩))
    (fun os started H enc _ F => by rw [OpenClaim.pre_eq_preRow]; exact lifted os started H enc F)
theorem plain (f : FuncId) (fn : Func) (hf : Tryd.pinned.checked.prog.funcNamed Tryd.f6.name = some f) (hfn : Tryd.pinned.checked.prog.funcs[f]? = some fn) :
    false = Tryd.pinned.checked.prog.looks [] ∧ ∀ (j : Nat) t, fn.params[j]? = some t → Tryd.pinned.checked.prog.wantsStandIn t = false := by
  obtain rfl : f = 6 := Option.some.inj ((show Tryd.prog.funcNamed Tryd.f6.name = some 6 by kernel_rfl).symm.trans hf) |>.symm
  obtain rfl : fn = Tryd.f6 := (Option.some.inj (Tryd.func6.symm.trans hfn)).symm
  refine ⟨by kernel_rfl, fun j t ht => ?_⟩
  rw [Tryd.params6] at ht
  have hm := Array.mem_of_getElem? ht
  simp at hm
  rcases hm with rfl | rfl | rfl
  all_goals exact (show Tryd.prog.wantsStandIn _ = false by kernel_rfl)
theorem card : Rows.TowerWalksCardSaid :=
  Claim7.holds_tied_plain_at .later [] _ _ _ _ said (fun _ h => by cases h) (by kernel_rfl) (fun _ h => by cases h) towerWalks_row_tie rfl ⟨rfl, rfl⟩ (by kernel_rfl) rfl plain (by kernel_rfl)
end Go.Proofs.YtmijkdlkhakmiaaDoor.lawTowerWalks
