/- Arithmetic. -/
import Derived.Test.YtggnolfcgaglfaaSymL
set_option linter.unusedVariables false
set_option linter.unusedSimpArgs false
namespace Go.Proofs.Ytggnolfcgaglfaa
open Go Go.RowKit
section
variable {P : Program} {st : St} {d : Option Tmp} {ty t t2 : TypeId} {pos : String} {af : Array Edge} {gd : Option (Nat × Bool)} {x y : Operand} {k : IntKind} {a b : Int}

theorem RS.move' {c : AV} (h : st.ev x = c) : RS P ⟨d, .move x, ty, pos, af, gd⟩ st c := h ▸ RS.move x
theorem RS.assign' {c : AV} (h : st.ev x = c) : RS P ⟨d, .assign x, ty, pos, af, gd⟩ st c := h ▸ RS.assign x
theorem RS.pickT {z : Operand} {c : AV} (hc : st.ev z = .v (.bool true)) (h : st.ev x = c) : RS P ⟨d, .pick z x y, ty, pos, af, gd⟩ st c := by
  have := RS.pick (P := P) (st := st) (d := d) (ty := ty) (pos := pos) (af := af) (gd := gd) z x y true hc
  simpa [h] using this
theorem RS.pickF {z : Operand} {c : AV} (hc : st.ev z = .v (.bool false)) (h : st.ev y = c) : RS P ⟨d, .pick z x y, ty, pos, af, gd⟩ st c := by
  have := RS.pick (P := P) (st := st) (d := d) (ty := ty) (pos := pos) (af := af) (gd := gd) z x y false hc
  simpa [h] using this
theorem beq_dec (a b : Int) : (a == b) = decide (a = b) := by
  by_cases h : a = b <;> simp [h]
theorem bne_dec (a b : Int) : (a != b) = decide (¬ a = b) := by
  by_cases h : a = b <;> simp [h]
theorem eqGuard_int (op : BinOp) (t : TypeId) (x y : Operand) (k k2 : IntKind) (a b : Int) (w : World) : (eqGuard op t x y (.int k a) (.int k2 b)).run P w = .ok () w := by
  cases op <;> simp [eqGuard]
theorem RS.bin {op : BinOp} {u v z : Value} (hx : st.ev x = .v u) (hy : st.ev y = .v v) (hg : ∀ w, (eqGuard op t x y u v).run P w = .ok () w) (hr : ∀ w, (binOp op t u v).run P w = .ok z w) : RS P ⟨d, .binOp op t x y t2, ty, pos, af, gd⟩ st (.v z) := fun w0 Rd0 e a w h => by
  have h1 := h.ev x
  have h2 := h.ev y
  rw [hx] at h1
  rw [hy] at h2
  refine ⟨z, .v, fun w' _ => ?_⟩
  simp only [execOp, h1.v_inv, h2.v_inv, Sem.run_bind, hg, hr, Result.andThen_ok, Sem.run_pure]
theorem RS.lss (hx : st.ev x = .v (.int k a)) (hy : st.ev y = .v (.int k b)) : RS P ⟨d, .binOp .lss t x y t2, ty, pos, af, gd⟩ st (.v (.bool (decide (a < b)))) :=
  RS.bin hx hy (eqGuard_int _ _ _ _ _ _ _ _) fun w => by simp [binOp_lss]
theorem RS.leq (hx : st.ev x = .v (.int k a)) (hy : st.ev y = .v (.int k b)) : RS P ⟨d, .binOp .leq t x y t2, ty, pos, af, gd⟩ st (.v (.bool (decide (a ≤ b)))) :=
  RS.bin hx hy (eqGuard_int _ _ _ _ _ _ _ _) fun w => by simp [binOp_leq]
theorem RS.gtr (hx : st.ev x = .v (.int k a)) (hy : st.ev y = .v (.int k b)) : RS P ⟨d, .binOp .gtr t x y t2, ty, pos, af, gd⟩ st (.v (.bool (decide (b < a)))) :=
  RS.bin hx hy (eqGuard_int _ _ _ _ _ _ _ _) fun w => by simp [binOp_gtr]
theorem RS.geq (hx : st.ev x = .v (.int k a)) (hy : st.ev y = .v (.int k b)) : RS P ⟨d, .binOp .geq t x y t2, ty, pos, af, gd⟩ st (.v (.bool (decide (b ≤ a)))) :=
  RS.bin hx hy (eqGuard_int _ _ _ _ _ _ _ _) fun w => by simp [binOp_geq]
theorem RS.eql (hx : st.ev x = .v (.int k a)) (hy : st.ev y = .v (.int k b)) : RS P ⟨d, .binOp .eql t x y t2, ty, pos, af, gd⟩ st (.v (.bool (decide (a = b)))) :=
  RS.bin hx hy (eqGuard_int _ _ _ _ _ _ _ _) fun w => by simp only [binOp_eql, Sem.run_pure, beq_dec]
theorem RS.neq (hx : st.ev x = .v (.int k a)) (hy : st.ev y = .v (.int k b)) : RS P ⟨d, .binOp .neq t x y t2, ty, pos, af, gd⟩ st (.v (.bool (decide (¬ a = b)))) :=
  RS.bin hx hy (eqGuard_int _ _ _ _ _ _ _ _) fun w => by simp only [binOp_neq, Sem.run_pure, bne_dec]
theorem RS.add (hx : st.ev x = .v (.int k a)) (hy : st.ev y = .v (.int k b)) : RS P ⟨d, .binOp .add t x y t2, ty, pos, af, gd⟩ st (.v (.int k (k.wrap (a + b)))) :=
  RS.bin hx hy (eqGuard_int _ _ _ _ _ _ _ _) fun w => by simp [binOp_add, Op.intArith]
theorem RS.sub (hx : st.ev x = .v (.int k a)) (hy : st.ev y = .v (.int k b)) : RS P ⟨d, .binOp .sub t x y t2, ty, pos, af, gd⟩ st (.v (.int k (k.wrap (a - b)))) :=
  RS.bin hx hy (eqGuard_int _ _ _ _ _ _ _ _) fun w => by simp [binOp_sub, Op.intArith]
theorem RS.mul (hx : st.ev x = .v (.int k a)) (hy : st.ev y = .v (.int k b)) : RS P ⟨d, .binOp .mul t x y t2, ty, pos, af, gd⟩ st (.v (.int k (k.wrap (a * b)))) :=
  RS.bin hx hy (eqGuard_int _ _ _ _ _ _ _ _) fun w => by simp [binOp_mul, Op.intArith]
theorem RS.rem (hx : st.ev x = .v (.int k a)) (hy : st.ev y = .v (.int k b)) (h0 : ¬ b = 0) : RS P ⟨d, .binOp .rem t x y t2, ty, pos, af, gd⟩ st (.v (.int k (a.tmod b))) :=
  RS.bin hx hy (eqGuard_int _ _ _ _ _ _ _ _) fun w => by simp [binOp_rem, Op.intDiv, h0]
theorem RS.quo (hx : st.ev x = .v (.int k a)) (hy : st.ev y = .v (.int k b)) (h0 : ¬ b = 0) : RS P ⟨d, .binOp .quo t x y t2, ty, pos, af, gd⟩ st (.v (.int k (k.wrap (a.tdiv b)))) :=
  RS.bin hx hy (eqGuard_int _ _ _ _ _ _ _ _) fun w => by simp [binOp_quo, Op.intDiv, h0]
theorem RS.not {b : Bool} (hx : st.ev x = .v (.bool b)) : RS P ⟨d, .unOp .not t x, ty, pos, af, gd⟩ st (.v (.bool (!b))) := fun w0 Rd0 e a w h => by
  have h1 := h.ev x
  rw [hx] at h1
  refine ⟨_, .v, fun w' _ => ?_⟩
  have e1 := h1.v_inv
  simp only [execOp, e1, unary_not, Sem.run_bind, Sem.run_pure, Result.andThen_ok]
theorem RS.eqlB {b c : Bool} (ht : P.underlying t = some .bool) (hx : st.ev x = .v (.bool b)) (hy : st.ev y = .v (.bool c)) : RS P ⟨d, .binOp .eql t x y t2, ty, pos, af, gd⟩ st (.v (.bool (b == c))) :=
  RS.bin hx hy (fun w => by simp [eqGuard]) fun w => run_eql_bool w t b c ht
theorem RS.min2 {ts : Array TypeId} {m n : Int} (hx : st.ev x = .v (.int k m)) (hy : st.ev y = .v (.int k n)) : RS P ⟨d, .call ⟨.builtin .min, #[x, y], ts⟩, ty, pos, af, gd⟩ st (.v (.int k (if n < m then n else m))) := fun w0 Rd0 e a w h => by
  have h1 := h.ev x
  have h2 := h.ev y
  rw [hx] at h1
  rw [hy] at h2
  refine ⟨_, .v, fun w' _ => ?_⟩
  have e1 := h1.v_inv
  have e2 := h2.v_inv
  have e3 : (#[x, y] : Array Operand).map a.eval = #[.int k m, .int k n] := by simp only [List.map_toArray, List.map_cons, List.map_nil, e1, e2]
  simp only [execOp, resolve, e3, Sem.run_bind, Sem.run_pure, Result.andThen_ok, invoke, builtin, Builtin.min_, List.foldlM_cons, List.foldlM_nil, Builtin.min2]
end
end Go.Proofs.Ytggnolfcgaglfaa
