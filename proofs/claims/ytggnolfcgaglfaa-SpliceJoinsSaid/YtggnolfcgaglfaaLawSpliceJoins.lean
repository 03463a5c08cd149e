/- SpliceJoins: the row, out of the law's contract and of what it computes. No condition beyond the statement's own. -/
import Derived.Test.YtggnolfcgaglfaaRows
import Derived.Test.YtggnolfcgaglfaaOpen
import Derived.Test.YtggnolfcgaglfaaSplG
set_option linter.unusedVariables false
set_option linter.unusedSimpArgs false
namespace Go.Proofs.Ytggnolfcgaglfaa.lawSpliceJoins
open Go Go.ChangeShapes Go.WideShapes Go.ChangeAt Go.RowKit
theorem own : ownKnob Try.prog.godebug = none := by kernel_rfl
theorem lOut : laidOutB Try.prog = true := by kernel_rfl
theorem parOk : ∀ t ∈ Try.f8.params.toList, Try.prog.readableRec t = true ∧ t < Try.prog.types.size := by
  intro t ht
  rw [Try.params8] at ht
  simp at ht
  rcases ht with rfl | rfl | rfl
  all_goals exact ⟨by kernel_rfl, of_decide_eq_true (by kernel_rfl)⟩
theorem code0 : tyC Try.prog 9 25 (.pr (.sl (.i .i64)) (.pr (.sl (.i .i64)) (.sl (.sl (.i .i64))))) = true := by kernel_rfl
theorem code1 : tyC Try.prog 9 25 (.pr (.sl (.i .i64)) (.pr (.sl (.i .i64)) (.sl (.sl (.i .i64))))) = true := by kernel_rfl
theorem code2 : tyC Try.prog 9 41 (.pr (.i .u8) (.i .u8)) = true := by kernel_rfl
theorem agg0 : aggB Try.prog 25 = true := by kernel_rfl
theorem agg1 : aggB Try.prog 25 = true := by kernel_rfl
theorem agg2 : aggB Try.prog 41 = true := by kernel_rfl
theorem res (N : Nat) : (c_law15_SpliceJoins N).el true EV (fun e _ => some e) = some (.sc .b true) := by kernel_rfl
theorem contract (H : Type) (enc : TypeId × Value → H) (W : World) (base : Nat) (args : Array Value) (ds gs : List (DataW H)) (before : List MemPlace)
    (hval : ∀ (j : Nat) t v, Try.f8.params[j]? = some t → args[j]? = some v → Value.okWide Try.prog W .any base t v)
    (hW : DataW.Whole enc Try.prog Try.f8.params.toList Rows.spliceJoinsSpec.vars false W args.toList ds gs before) :
    Calls Try.prog 8 args W fun e W' => ∃ v, e = .returned v ∧ Rows.spliceJoinsSpec.post enc Try.prog Try.f8 false true false false W args v W' := by
  have hW' := hW
  obtain ⟨p, q, hA0, hV, rfl, hfz, hnd⟩ := hW
  have hA : DataW.TrodAll enc Try.prog W 0 (fun _ => true) true Try.f8.params.toList args.toList ds p := hA0
  have hval2 := hval
  rw [Try.params8] at hA hval
  obtain ⟨v0, vs0, d0, ds0, p0, q0, hargs, rfl, rfl, h0, r0⟩ := trodAll_cons hA
  obtain ⟨v1, vs1, d1, ds1, p1, q1, rfl, rfl, rfl, h1, r1⟩ := trodAll_cons r0
  obtain ⟨v2, vs2, d2, ds2, p2, q2, rfl, rfl, rfl, h2, r2⟩ := trodAll_cons r1
  obtain ⟨rfl, rfl, rfl⟩ := trodAll_nil r2
  obtain rfl : args = #[v0, v1, v2] := by cases args; simp_all
  obtain ⟨rfl, rfl⟩ := trodVars_none hV
  refine law_post lOut rfl parOk rfl Try.underlying4 hW' rfl ?_
  clear hW' hA0 hval2
  obtain ⟨y0, f0, a0, b0⟩ := open_arg code0 (hval 0 25 v0 rfl rfl) h0
  obtain ⟨y1, f1, a1, b1⟩ := open_arg code1 (hval 1 25 v1 rfl rfl) h1
  obtain ⟨y2, f2, a2, b2⟩ := open_arg code2 (hval 2 41 v2 rfl rfl) h2
  obtain ⟨N, hN⟩ : ∃ N, Fu + 20 ≤ N := ⟨_, Nat.le_refl _⟩
  have hm : m_law15_SpliceJoins N (y0.1, y0.2.1, y0.2.2, y1.1, y1.2.1, y1.2.2, y2.1, y2.2) = some true := spliceJoins_eq N (by omega) _ _ _ _ _ _ _ _ ⟨f0.1.1, f0.2.1.1, f0.2.2.1, fun x h => (f0.2.2.2 x h).1⟩ ⟨f1.1.1, f1.2.1.1, f1.2.2.1, fun x h => (f1.2.2.2 x h).1⟩ (fits_u8 f2.1) (fits_u8 f2.2)
  have hc := c_law15_SpliceJoins_ok N
  have hr := res N
  unfold c_law15_SpliceJoins at hc hr
  refine calls_of_ctr hc hm (fun b o u h => by obtain ⟨_, _, _, h, _⟩ := h; cases h) (vs := [v0, v1, v2]) ?_ hr rfl
  · exact LR.cons (a0 agg0) (LR.cons (a1 agg1) (LR.cons (a2 agg2) (LR.nil)))
noncomputable def witWorld (os : Os) : World := World.holding Try.prog os ⟨#[], #[], []⟩
theorem laid_met (os : Os) : laidMet Try.prog Rows.spliceJoinsRow.laid ((witWorld os).forCall (fun _ _ => 0) ⟨#[], #[.agg #[.slice none 0 0, .slice none 0 0, .slice none 0 0], .agg #[.slice none 0 0, .slice none 0 0, .slice none 0 0], .agg #[.int .u8 0, .int .u8 0]], []⟩).memory := ⟨[], rfl, List.nodup_nil, fun _ _ h => by cases h⟩
theorem reads (os : Os) {H : Type} (enc : TypeId × Value → H) : ∃ places, DataW.whole enc Try.prog ((witWorld os).forCall (fun _ _ => 0) ⟨#[], #[.agg #[.slice none 0 0, .slice none 0 0, .slice none 0 0], .agg #[.slice none 0 0, .slice none 0 0, .slice none 0 0], .agg #[.int .u8 0, .int .u8 0]], []⟩).memory Try.f8.params.toList Rows.spliceJoinsSpec.vars false (#[.agg #[.slice none 0 0, .slice none 0 0, .slice none 0 0], .agg #[.slice none 0 0, .slice none 0 0, .slice none 0 0], .agg #[.int .u8 0, .int .u8 0]] : Array Value).toList 8 = some ([.agg [.nil, .nil, .nil], .agg [.nil, .nil, .nil], .agg [.lit (.int .u8 0), .lit (.int .u8 0)]], [], places) :=
  ⟨[], by kernel_rfl⟩
set_option maxRecDepth 100000 in
theorem lifted (os : Os) (started : os.Started) (H : Type) (enc : TypeId × Value → H) (F : Stop.Interp) :
    ReturnsInHanded {} Try.checked os 8 .any ((OpenSpec.ofChange Rows.spliceJoinsSpec).preRow enc Try.prog Try.f8 Rows.spliceJoinsRow.domain false Rows.spliceJoinsRow.laid) (((OpenSpec.ofChange Rows.spliceJoinsSpec).at F).post enc Try.prog Try.f8 false true false false) := by
  obtain ⟨places, hx⟩ := reads os enc
  refine returnsInHanded_of_row (C := Try.checked) (s := (OpenSpec.ofChange Rows.spliceJoinsSpec)) own started (by kernel_rfl) Try.func8
    (witness_row_at (enc := enc) (C := Try.checked) false (witWorld os) #[.agg #[.slice none 0 0, .slice none 0 0, .slice none 0 0], .agg #[.slice none 0 0, .slice none 0 0, .slice none 0 0], .agg #[.int .u8 0, .int .u8 0]] rfl (by kernel_rfl) (by kernel_rfl) (by kernel_rfl)
      (OpenSpec.preRow_of_cond 8 hx (by kernel_rfl) (fun k hk => by cases hk) (by kernel_rfl) (laid_met os))) ?_
  intro W base args ds gs before hval hW _ hcond _ hL _ _
  exact contract H enc W base args ds gs before hval hW
theorem said : Rows.SpliceJoinsSaid :=
  OpenClaim.holds_of_cond 8 Try.f8 rfl rfl rfl rfl rfl rfl rfl ⟨rfl, rfl, rfl, rfl, rfl⟩ rfl rfl rfl rfl rfl (by kernel_rfl) Try.func8 (by kernel_rfl)
    (of_decide_eq_true (by kernel_rfl)) (by unfold Func.isWrapper; first | (rw [if_pos (by decide +kernel)]; kernel_rfl) | (rw [if_neg (by decide +kernel)]; exact ⟨rfl, rfl⟩))
    (fun os started H enc _ F => by rw [OpenClaim.pre_eq_preRow]; exact lifted os started H enc F)
end Go.Proofs.Ytggnolfcgaglfaa.lawSpliceJoins
