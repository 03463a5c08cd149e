/- Contracts, calls, the code around the regions. -/
import Derived.Test.YtiejnblpmfgpbaaSymH
import Derived.LoopN
set_option linter.unusedVariables false
set_option linter.unusedSimpArgs false
namespace Go.Proofs.Ytiejnblpmfgpbaa
open Go Go.RowKit

def Enters (P : Program) (f : FuncId) : Prop := ∃ fn, P.funcs[f]? = some fn ∧ (fn.name == "runtime.NumGoroutine") = false ∧ fn.body.isNone = false

/-- CONTRACT: at arguments known as 'as' the function returns what is known as r; it has made H, and turned nothing else -/
def RC (P : Program) (f : FuncId) (as : List AV) (H : Hp) (r : AV) : Prop :=
  Enters P f ∧ ∀ w Rd vs, Good Rd w → LR (VR Rd none) as vs → Calls P f vs.toArray w fun x w' => ∃ v e, x = .returned v ∧ SR w Rd e H w' ∧ VR (RDx w Rd e H w') (some e) r v

section
variable {P : Program} {st : St} {d : Nat} {ty : TypeId} {pos : String} {af : Array Edge} {gd : Option (Nat × Bool)} {K : St → Prop}

theorem run_callFunc {f : FuncId} (h : Enters P f) (args : Array Value) (w : World) : (callFunc f args).run P w = .ok (.enter f args) w := by
  obtain ⟨fn, h1, h2, h3⟩ := h
  have h2' : ¬ (fn.name == "runtime.NumGoroutine") = true := by rw [h2]; simp
  have h3' : ¬ fn.body.isNone = true := by rw [h3]; simp
  simp only [callFunc, Sem.run_bind]
  have : (program).run P w = .ok P w := rfl
  rw [this]
  simp only [Result.andThen_ok, h1]
  rw [if_neg h2', if_neg h3']
  rfl

theorem AV.nom_small {c : AV} (h : c.nom (fun k => !Nat.blt k 1000) = true) {Rd : Nat → Nat → Value → Prop} {e e2 : Env} {v : Value} (hv : VR Rd (some e2) c v) (B : Nat) : VR Rd (some (e.join B e2)) (c.ren (B + ·)) v := by
  refine hv.renp _ h (B + ·) (fun j hj => ?_) (fun j hj => ?_)
  · have hj : j < 1000 := by simpa using hj
    have : inB B (B + j) = true := by simp [inB]; omega
    simp [Env.join, this]
  · have hj : j < 1000 := by simpa using hj
    have : inB B (B + j) = true := by simp [inB]; omega
    simp [Env.join, this]

/-- CALL -/
theorem SS.call {f : FuncId} {args : Array Operand} {ts : Array TypeId} {h' H : Hp} {as : List AV} {r : AV} (hr : RC P f as H r) (hl : lendAs st.h (args.toList.map st.ev) = some (h', as)) (hH : smallH H = true) (hn : r.nom (fun k => !Nat.blt k 1000) = true) (hd : d < st.n)
    (hK : K ⟨st.n, (d, r.ren ((1000 * (d + 1)) + ·)) :: tkilp (inB (1000 * (d + 1))) st.t, hren ((1000 * (d + 1)) + ·) H ++ hkilp (inB (1000 * (d + 1))) h'⟩) : SS P ⟨some d, .call ⟨.value (.func f), args, ts⟩, ty, pos, af, gd⟩ st K := by
  intro w0 Rd0 e a w next Q h hn'
  have hargs : LR (VR (RDx w0 Rd0 e st.h w) (some e)) (args.toList.map st.ev) (args.toList.map a.eval) := by
    refine ⟨by simp, fun j c u h1 h2 => ?_⟩
    rw [List.getElem?_map] at h1 h2
    obtain ⟨x, hx, rfl⟩ := Option.map_eq_some_iff.1 h1
    rw [hx] at h2
    simp at h2
    subst h2
    exact h.ev x
  obtain ⟨e1, l, hv⟩ := lendAs_ok _ _ _ _ _ _ h.sr hargs hl
  have h1 := h.lent l
  have hcall := hr.2 w (RDx w0 Rd0 e1 h' w) (args.toList.map a.eval) (fun b o u hh => hh.1) hv
  have hrun : (execOp a.eval ⟨some d, .call ⟨.value (.func f), args, ts⟩, ty, pos, af, gd⟩).run P w = .ok (.enter f (args.toList.map a.eval).toArray) w := by
    have := run_callFunc hr.1 (args.map a.eval) w
    have e1 : (args.toList.map a.eval).toArray = args.map a.eval := by rw [← Array.toList_map]
    rw [e1]
    simpa [execOp, resolve, Act.eval, Deferred.ofValue, invoke] using this
  unfold Oper.wp
  rw [hrun]
  show Calls P f _ w _
  refine hcall.mono fun x w' hx => ?_
  obtain ⟨v, e2, rfl, hs2, hv2⟩ := hx
  obtain ⟨j1, j2, j3⟩ := SR.join (1000 * (d + 1)) h1.sr hs2 hH
  refine hn' _ hK (e1.join (1000 * (d + 1)) e2) _ _ ⟨by simpa [Act.put] using h.n, h.d, j1, TR.put (fun i => ?_) (by rw [h.n]; exact hd) ?_⟩
  · rw [tget_kilp]
    exact ((((h1.tr i).mono j2).kilp _).envp rfl (inB (1000 * (d + 1))) (kilp_nom _ _) (fun j hj => by simp [Env.join, hj]) (fun j hj => by simp [Env.join, hj]))
  · exact AV.nom_small hn (hv2.mono j3) _

/-- a step, behind its guard -/
def GS (P : Program) (ops : Array Oper) (o : Oper) (st : St) (K : St → Prop) : Prop :=
  ∀ w0 Rd0 e a w next Q, Ga w0 Rd0 e st a w → (∀ st', K st' → ∀ e' a' w', Ga w0 Rd0 e' st' a' w' → next a' w') →
    if Region.wanted o (yielded ops a.tmps) then o.wp P a w next Q else next (a.put o.dst undef) w
theorem GS.plain {ops : Array Oper} {o : Oper} (hg : o.guard = none) (h : SS P o st K) : GS P ops o st K := by
  intro w0 Rd0 e a w next Q hga hn
  rw [if_pos (by simp [Region.wanted, hg])]
  exact h w0 Rd0 e a w next Q hga hn
theorem Ga.yielded {ops : Array Oper} {w0 : World} {Rd0 : Nat → Nat → Value → Prop} {e : Env} {a : Act} {w : World} (h : Ga w0 Rd0 e st a w) {j s : Nat} {b : Bool} (hj : (ops[j]?).bind (·.dst) = some s) (hs : s < st.n) (hv : tget st.t s = .v (.bool b)) : yielded ops a.tmps j = some b := by
  have := h.tr s
  rw [hv] at this
  have := this.v_inv
  have hlt : s < a.tmps.size := by rw [h.n]; exact hs
  have h2 : a.tmps[s]? = some (.bool b) := by
    rw [Array.getElem?_eq_getElem hlt]
    simp [Array.getD_eq_getD_getElem?, Array.getElem?_eq_getElem hlt] at this
    rw [this]
  unfold Go.yielded
  rw [hj]
  simp [h2]
theorem GS.taken {ops : Array Oper} {o : Oper} {j s : Nat} {b : Bool} (hg : o.guard = some (j, b)) (hj : (ops[j]?).bind (·.dst) = some s) (hs : s < st.n) (hv : tget st.t s = .v (.bool b)) (h : SS P o st K) : GS P ops o st K := by
  intro w0 Rd0 e a w next Q hga hn
  rw [if_pos (by simp [Region.wanted, hg, hga.yielded hj hs hv])]
  exact h w0 Rd0 e a w next Q hga hn
theorem GS.left {ops : Array Oper} {dd : Option Nat} {op : Op} {j s : Nat} {b c : Bool} (hg : gd = some (j, b)) (hj : (ops[j]?).bind (·.dst) = some s) (hs : s < st.n) (hv : tget st.t s = .v (.bool c)) (hbc : (c == b) = false) (hd : ∀ d, dd = some d → d < st.n)
    (hK : K ⟨st.n, match dd with | some d => (d, .v undef) :: st.t | none => st.t, st.h⟩) : GS P ops ⟨dd, op, ty, pos, af, gd⟩ st K := by
  intro w0 Rd0 e a w next Q hga hn
  have hw : ¬ Region.wanted (⟨dd, op, ty, pos, af, gd⟩ : Oper) (Go.yielded ops a.tmps) = true := by
    simp only [Region.wanted, hg, hga.yielded hj hs hv]
    simpa using hbc
  rw [if_neg hw]
  refine hn _ hK e _ _ ?_
  cases dd with
  | none => exact hga
  | some d => exact hga.put (hd d rfl) .v

theorem GS.leftU {ops : Array Oper} {dd : Option Nat} {op : Op} {j s : Nat} {b : Bool} (hg : gd = some (j, b)) (hj : (ops[j]?).bind (·.dst) = some s) (hs : s < st.n) (hv : tget st.t s = .v undef) (hd : ∀ d, dd = some d → d < st.n)
    (hK : K ⟨st.n, match dd with | some d => (d, .v undef) :: st.t | none => st.t, st.h⟩) : GS P ops ⟨dd, op, ty, pos, af, gd⟩ st K := by
  intro w0 Rd0 e a w next Q hga hn
  have hy : Go.yielded ops a.tmps j = none := by
    have := hga.tr s
    rw [hv] at this
    have := this.v_inv
    have hlt : s < a.tmps.size := by rw [hga.n]; exact hs
    have h2 : a.tmps[s]? = some undef := by
      rw [Array.getElem?_eq_getElem hlt]
      simp [Array.getD_eq_getD_getElem?, Array.getElem?_eq_getElem hlt] at this
      rw [this]
    unfold Go.yielded
    rw [hj]
    simp [h2, undef]
  have hw : ¬ Region.wanted (⟨dd, op, ty, pos, af, gd⟩ : Oper) (Go.yielded ops a.tmps) = true := by
    simp only [Region.wanted, hg, hy]
    simp
  rw [if_neg hw]
  refine hn _ hK e _ _ ?_
  cases dd with
  | none => exact hga
  | some d => exact hga.put (hd d rfl) .v
theorem GS.left1 {ops : Array Oper} {dd : Option Nat} {op : Op} {j s : Nat} (hg : gd = some (j, true)) (hj : (ops[j]?).bind (·.dst) = some s) (hs : s < st.n) (hd : ∀ d, dd = some d → d < st.n) (hv : tget st.t s = .v (.bool false))
    (hK : K ⟨st.n, match dd with | some d => (d, .v undef) :: st.t | none => st.t, st.h⟩) : GS P ops ⟨dd, op, ty, pos, af, gd⟩ st K := GS.left hg hj hs hv rfl hd hK
theorem GS.left0 {ops : Array Oper} {dd : Option Nat} {op : Op} {j s : Nat} (hg : gd = some (j, false)) (hj : (ops[j]?).bind (·.dst) = some s) (hs : s < st.n) (hd : ∀ d, dd = some d → d < st.n) (hv : tget st.t s = .v (.bool true))
    (hK : K ⟨st.n, match dd with | some d => (d, .v undef) :: st.t | none => st.t, st.h⟩) : GS P ops ⟨dd, op, ty, pos, af, gd⟩ st K := GS.left hg hj hs hv rfl hd hK
/-- the operations of a region, one after the other -/
def AL (P : Program) (ops : Array Oper) (l : List Oper) (st : St) (K : St → Prop) : Prop :=
  ∀ w0 Rd0 e a w Q, Ga w0 Rd0 e st a w → (∀ st', K st' → ∀ e' a' w', Ga w0 Rd0 e' st' a' w' → Q .normal a' w') → wpList P ops Q l a w
theorem AL.nil {ops : Array Oper} (h : K st) : AL P ops [] st K := fun w0 Rd0 e a w Q hga hn => hn _ h e a w hga
theorem AL.cons {ops : Array Oper} {o : Oper} {rest : List Oper} (h : ∀ K' : St → Prop, (∀ st', AL P ops rest st' K → K' st') → GS P ops o st K') : AL P ops (o :: rest) st K := by
  intro w0 Rd0 e a w Q hga hn
  refine wpList_step fun K1 hK1 => ?_
  exact h (fun st' => AL P ops rest st' K) (fun _ h => h) w0 Rd0 e a w K1 Q hga fun st' hst' e' a' w' hga' => hK1 a' w' (hst' w0 Rd0 e' a' w' Q hga' hn)

/-- CODE: from a frame known as st one comes out as 'Post' says -/
def AC (P : Program) (c : Code) (st : St) (Post : Exit → St → Prop) : Prop :=
  ∀ w0 Rd0 e a w Q, Ga w0 Rd0 e st a w → (∀ x st', Post x st' → ∀ e' a' w', Ga w0 Rd0 e' st' a' w' → Q x a' w') → c.wp P Q a w
variable {Post : Exit → St → Prop}
def PThen (next : St → Prop) (Post : Exit → St → Prop) : Exit → St → Prop
  | .normal, st => next st
  | x, st => Post x st
def PBlock (id : Nat) (Post : Exit → St → Prop) : Exit → St → Prop
  | .exit i, st => if i = id then Post .normal st else Post (.exit i) st
  | x, st => Post x st
theorem AC.region {id : Nat} {l : List Oper} (h : AL P l.toArray l st (Post .normal)) : AC P (.region id l.toArray false) st Post := fun w0 Rd0 e a w Q hga hn =>
  wp_region_lit (h w0 Rd0 e a w Q hga fun st' hst' e' a' w' hg => hn .normal st' hst' e' a' w' hg)
theorem AC.seq {x y : Code} (h : AC P x st (PThen (fun st' => AC P y st' Post) Post)) : AC P (.seq x y) st Post := fun w0 Rd0 e a w Q hga hn => by
  refine wp_seq (h w0 Rd0 e a w _ hga fun ex st' hst' e' a' w' hg => ?_)
  cases ex with
  | normal => exact hst' w0 Rd0 e' a' w' Q hg hn
  | exit id => exact hn _ st' hst' e' a' w' hg
  | goto l => exact hn _ st' hst' e' a' w' hg
  | ret => exact hn _ st' hst' e' a' w' hg
  | panic ch => exact hn _ st' hst' e' a' w' hg
  | outgrown => exact hn _ st' hst' e' a' w' hg
/-- what follows stands behind a name -/
theorem AC.seqK {x y : Code} (h : ∀ K : St → Prop, (∀ st', AC P y st' Post → K st') → AC P x st (PThen K Post)) : AC P (.seq x y) st Post := .seq (h _ fun _ h => h)
theorem AC.cond {c : Operand} {x y : Code} {b : Bool} (hc : st.ev c = .v (.bool b)) (h : AC P (if b then x else y) st Post) : AC P (.cond c x y) st Post := fun w0 Rd0 e a w Q hga hn => by
  have hv := hga.ev c
  rw [hc] at hv
  exact wp_cond hv.v_inv (h w0 Rd0 e a w Q hga hn)
theorem AC.condT {c : Operand} {x y : Code} (hc : st.ev c = .v (.bool true)) (h : AC P x st Post) : AC P (.cond c x y) st Post := .cond hc h
theorem AC.condF {c : Operand} {x y : Code} (hc : st.ev c = .v (.bool false)) (h : AC P y st Post) : AC P (.cond c x y) st Post := .cond hc h
theorem AC.split {c : Operand} {x y : Code} {p : Prop} [Decidable p] (hc : st.ev c = .v (.bool (decide p))) (ht : p → AC P x st Post) (hf : ¬ p → AC P y st Post) : AC P (.cond c x y) st Post := by
  by_cases hp : p
  · exact .cond hc (by simpa [hp] using ht hp)
  · exact .cond hc (by simpa [hp] using hf hp)
theorem AC.block {id : Nat} {c : Code} (h : AC P c st (PBlock id Post)) : AC P (.block id c) st Post := fun w0 Rd0 e a w Q hga hn => by
  refine wp_block (h w0 Rd0 e a w _ hga fun ex st' hst' e' a' w' hg => ?_)
  cases ex with
  | normal => exact hn _ st' hst' e' a' w' hg
  | exit id' =>
    simp only [PBlock] at hst'
    simp only [Exit.inBlock]
    split at hst'
    · rename_i hid; rw [if_pos hid]; exact hn _ st' hst' e' a' w' hg
    · rename_i hid; rw [if_neg hid]; exact hn _ st' hst' e' a' w' hg
  | goto l => exact hn _ st' hst' e' a' w' hg
  | ret => exact hn _ st' hst' e' a' w' hg
  | panic ch => exact hn _ st' hst' e' a' w' hg
  | outgrown => exact hn _ st' hst' e' a' w' hg
theorem AC.skip (h : Post .normal st) : AC P .skip st Post := fun w0 Rd0 e a w Q hga hn => wp_skip (hn _ st h e a w hga)
theorem AC.label {l : Nat} (h : Post .normal st) : AC P (.label l) st Post := fun w0 Rd0 e a w Q hga hn => wp_label (hn _ st h e a w hga)
theorem AC.exit {id : Nat} (h : Post (.exit id) st) : AC P (.exit id) st Post := fun w0 Rd0 e a w Q hga hn => wp_exit (hn _ st h e a w hga)
theorem AC.ret (h : Post .ret st) : AC P .ret st Post := fun w0 Rd0 e a w Q hga hn => wp_ret (hn _ st h e a w hga)

/-- a frame known as st is known as st2 too -/
def SLe (P : Program) (st st2 : St) : Prop := ∀ w0 Rd0 e a w, Ga w0 Rd0 e st a w → ∃ e', Ga w0 Rd0 e' st2 a w
theorem SLe.refl {P : Program} {st : St} : SLe P st st := fun _ _ e _ _ h => ⟨e, h⟩
theorem SLe.trans {P : Program} {s1 s2 s3 : St} (h : SLe P s1 s2) (k : SLe P s2 s3) : SLe P s1 s3 := fun w0 Rd0 e a w hg => let ⟨e', hg'⟩ := h w0 Rd0 e a w hg; k w0 Rd0 e' a w hg'
theorem AC.le {c : Code} {st2 : St} (hs : SLe P st st2) (h : AC P c st2 Post) : AC P c st Post := fun w0 Rd0 e a w Q hga hn => let ⟨e', hg⟩ := hs w0 Rd0 e a w hga; h w0 Rd0 e' a w Q hg hn
theorem AL.le {ops : Array Oper} {l : List Oper} {st2 : St} (hs : SLe P st st2) (h : AL P ops l st2 K) : AL P ops l st K := fun w0 Rd0 e a w Q hga hn => let ⟨e', hg⟩ := hs w0 Rd0 e a w hga; h w0 Rd0 e' a w Q hg hn
theorem GS.le {ops : Array Oper} {o : Oper} {st2 : St} (hs : SLe P st st2) (h : GS P ops o st2 K) : GS P ops o st K := fun w0 Rd0 e a w next Q hga hn => let ⟨e', hg⟩ := hs w0 Rd0 e a w hga; h w0 Rd0 e' a w next Q hg hn
theorem AC.mono {c : Code} {Post' : Exit → St → Prop} (h : AC P c st Post) (hp : ∀ x st', Post x st' → Post' x st') : AC P c st Post' := fun w0 Rd0 e a w Q hga hn => h w0 Rd0 e a w Q hga fun x st' hst' => hn x st' (hp x st' hst')

/-- LOOP: I x are the states at its head -/
theorem AC.loop {c : Code} {α : Type} (I : α → St) (μ : α → Nat) (x0 : α) (h0 : SLe P st (I x0))
    (round : ∀ x, AC P c (I x) (PThen (fun st' => ∃ x', SLe P st' (I x') ∧ μ x' < μ x) Post)) : AC P (.loop c) st Post := by
  intro w0 Rd0 e a w Q hga hn
  obtain ⟨e0, hg0⟩ := h0 w0 Rd0 e a w hga
  have key : ∀ n x, μ x < n → ∀ e a w, Ga w0 Rd0 e (I x) a w → Code.rounds P c Q n a w := by
    intro n
    induction n with
    | zero => intro x hx; omega
    | succ n ih =>
      intro x hx e a w hg
      refine round x w0 Rd0 e a w (Exit.then (Code.rounds P c Q n) Q) hg fun ex st' hst' e' a' w' hg' => ?_
      cases ex with
      | normal =>
        obtain ⟨x', hle, hlt⟩ := hst'
        obtain ⟨e2, hg2⟩ := hle w0 Rd0 e' a' w' hg'
        exact ih x' (by omega) e2 a' w' hg2
      | exit id => exact hn _ st' hst' e' a' w' hg'
      | goto l => exact hn _ st' hst' e' a' w' hg'
      | ret => exact hn _ st' hst' e' a' w' hg'
      | panic ch => exact hn _ st' hst' e' a' w' hg'
      | outgrown => exact hn _ st' hst' e' a' w' hg'
  exact wp_loop_rounds _ (key _ x0 (Nat.lt_succ_self _) e0 a w hg0)
end
end Go.Proofs.Ytiejnblpmfgpbaa
