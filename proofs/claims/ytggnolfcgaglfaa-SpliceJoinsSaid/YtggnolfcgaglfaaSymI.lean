/- Contracts, calls, the code around the regions. -/
import Derived.Test.YtggnolfcgaglfaaSymH
import Derived.LoopN
import Derived.Scope
set_option linter.unusedVariables false
set_option linter.unusedSimpArgs false
namespace Go.Proofs.Ytggnolfcgaglfaa
open Go Go.RowKit

def Enters (P : Program) (f : FuncId) : Prop := ∃ fn, P.funcs[f]? = some fn ∧ (fn.name == "runtime.NumGoroutine") = false ∧ fn.body.isNone = false

/-- CONTRACT: at arguments known as 'as', and objects H0 that are handed over, the function returns what is known as r; its objects are then H; it has turned nothing else -/
def RCX (P : Program) (f : FuncId) (H0 : Hp) (as : List AV) (H : Hp) (r : AV) : Prop :=
  Enters P f ∧ ∀ B Rd e w vs, SR B Rd e H0 w → LR (VR (RDx B Rd e H0 w) (some e)) as vs → Calls P f vs.toArray w fun x w' => ∃ v e', x = .returned v ∧ SR B Rd e' H w' ∧ VR (RDx B Rd e' H w') (some e') r v

section
variable {P : Program} {st : St} {d : Nat} {ty : TypeId} {pos : String} {af : Array Edge} {gd : Option (Nat × Bool)} {K : St → Prop}

theorem run_callFunc {f : FuncId} (h : Enters P f) (args : Array Value) (w : World) : (callFunc f args).run P w = .ok (.enter f args) w := by
  obtain ⟨fn, h1, h2, h3⟩ := h
  have h2' : ¬ (fn.name == "runtime.NumGoroutine") = true := by rw [h2]; simp
  have h3' : ¬ fn.body.isNone = true := by rw [h3]; simp
  simp only [callFunc, Sem.run_bind]
  have : (program).run P w = .ok P w := rfl
  rw [this]
  simp only [Result.andThen_ok, h1]
  rw [if_neg h2', if_neg h3']
  rfl

/-! ### what holds nothing that is read elsewhere -/
mutual
def AV.pu : AV → Bool
  | .un => true
  | .v _ => true
  | .sl _ _ rows => rows.isEmpty
  | .ow _ => true
  | .pt _ _ => true
  | .pe _ _ _ _ => true
  | .sw _ _ _ _ => true
  | .fp _ => false
  | .mp _ => true
  | .ag cs => AV.puL cs
  | .tu cs => AV.puL cs
  | .cl _ fs cs => AV.puL fs && AV.puL cs
def AV.puL : List AV → Bool
  | [] => true
  | c :: cs => AV.pu c && AV.puL cs
end
theorem puL_get : ∀ {cs : List AV}, AV.puL cs = true → ∀ (j : Nat) c, cs[j]? = some c → c.pu = true
  | [], _, j, c, h => by simp at h
  | x :: cs, hm, j, c, h => by
    simp only [AV.puL, Bool.and_eq_true] at hm
    cases j with
    | zero => simp at h; exact h ▸ hm.1
    | succ j => exact puL_get hm.2 j c (by simpa using h)
theorem VR.pure {Rd Rd' : Nat → Nat → Value → Prop} {E : Option Env} {c : AV} {u : Value} (h : VR Rd E c u) (hp : c.pu = true) : VR Rd' E c u := by
  induction h with
  | un => exact .un
  | v => exact .v
  | @sl E tight sz rows a cap us hw h1c hl hc h1 h2 h3 ha ih =>
    have hr : rows = [] := by simpa [AV.pu] using hp
    subst hr
    have hu : us = [] := by simpa using hl
    subst hu
    exact .sl (rows := []) [] (by simp) (by simp) rfl (by simp) h1 h2 h3 (by simp)
  | ow => exact .ow
  | pt h => exact .pt h
  | pe h => exact .pe h
  | sw h ho h1 h2 => exact .sw h ho h1 h2
  | fp => simp [AV.pu] at hp
  | ag us hl hc ih => exact .ag us hl fun j c u h1 h2 => ih j c u h1 h2 (puL_get (by simpa [AV.pu] using hp) j c h1)
  | tu us hl hc ih => exact .tu us hl fun j c u h1 h2 => ih j c u h1 h2 (puL_get (by simpa [AV.pu] using hp) j c h1)
  | mp h => exact .mp h
  | cl us xs hl hl2 hc hc2 ih ih2 =>
    simp only [AV.pu, Bool.and_eq_true] at hp
    exact .cl us xs hl hl2 (fun j c u h1 h2 => ih j c u h1 h2 (puL_get hp.1 j c h1)) (fun j c u h1 h2 => ih2 j c u h1 h2 (puL_get hp.2 j c h1))
def obPu : Ob → Prop
  | .box _ cs => AV.puL cs = true
  | .arr _ _ rows _ => ∀ c ∈ rows.flatten, c.pu = true
  | .mp _ es => ∀ p ∈ es, p.2.pu = true
  | .nr _ cs => AV.puL cs = true
theorem OR.pure {Rd Rd' : Nat → Nat → Value → Prop} {e : Env} {w : World} {k : Nat} {ob : Ob} (h : OR Rd e w k ob) (hp : obPu ob) : OR Rd' e w k ob := by
  cases ob with
  | box t cs =>
    obtain ⟨h0, b, us, h1, h2, h3⟩ := h
    exact ⟨h0, b, us, h1, h2, h3.1, fun j c u hc hu => (h3.2 j c u hc hu).pure (puL_get hp j c hc)⟩
  | arr t sz rows wr =>
    obtain ⟨h0, h1, h2, h3⟩ := h
    refine ⟨h0, h1, h2, ?_⟩
    rcases h3 with h3 | ⟨b, cap, cur, a1, a2, a3, a4, a5, a6, a7, a8⟩
    · exact .inl h3
    · exact .inr ⟨b, cap, cur, a1, a2, a3, a4, a5, a6, ⟨a7.1, fun j c u hc hu => (a7.2 j c u hc hu).pure (hp c (List.mem_of_getElem? hc))⟩, a8⟩
  | mp d es =>
    obtain ⟨h0, b, arr, clock, h1, h2, h3⟩ := h
    exact ⟨h0, b, arr, clock, h1, h2, h3.len, fun j x m hx hm => ⟨(h3.key j x m hx hm).1, (h3.key j x m hx hm).2.pure (hp x (List.mem_of_getElem? hx))⟩, h3.isk, h3.stp, h3.brn, h3.clk⟩
  | nr t cs =>
    obtain ⟨h0, h3⟩ := h
    refine ⟨h0, ?_⟩
    rcases h3 with h3 | ⟨b, cap, cur, a1, a2, a3, a4, a5, a6, a7⟩
    · exact .inl h3
    · exact .inr ⟨b, cap, cur, a1, a2, a3, a4, a5, a6, ⟨a7.1, fun j c u hc hu => (a7.2 j c u hc hu).pure (puL_get hp j c hc)⟩⟩
def hpPu (H : Hp) : Prop := ∀ k ob, hget H k = some ob → obPu ob
theorem SR.pure {B : Bs} {Rd Rd' : Nat → Nat → Value → Prop} {e : Env} {H : Hp} {w : World} (h : SR B Rd' e H w) (hp : hpPu H) (hg : Good Rd B) : SR B Rd e H w :=
  ⟨h.ext, hg, fun k ob hk => (h.ob k ob hk).pure (hp k ob hk), h.base, h.inj, h.pin⟩

/-! ### calls -/
/-- how a callee is handed what it works with -/
def Gives (st : St) (D : List (Nat × Nat)) (B : Nat) (h' H0 : Hp) (as cs : List AV) : Prop :=
  ∀ w0 Rd0 e w us, SR w0 Rd0 e st.h w → LR (VR (RDx w0 Rd0 e st.h w) (some e)) cs us →
    ∃ e1, Lent w0 Rd0 e st.h w e1 h' ∧ Handed D e1 h' ∧
      (∀ p ob, hget H0 p = some ob → ∃ c ob', asc D p = some c ∧ hget h' c = some ob' ∧ ∀ Rd, OR Rd e1 w c ob' → OR Rd e1 w c (ob.ren (piX D B))) ∧
      LR (VR (RDx w0 Rd0 e1 h' w) (some e1)) (as.map (AV.ren (piX D B))) us
/-- all that is not the callee's own, as it is read now -/
def RB (D : List (Nat × Nat)) (B : Nat) (e : Env) (w : World) (b o : Nat) (u : Value) : Prop := w.cell? ⟨b, o, none⟩ = some u ∧ ¬ (cB D B e w).mine b
/-- what a callee that keeps nothing of it is handed -/
def GivesP (st : St) (D : List (Nat × Nat)) (B : Nat) (H0 : Hp) (as cs : List AV) : Prop :=
  ∀ w0 Rd0 e w us, SR w0 Rd0 e st.h w → LR (VR (RDx w0 Rd0 e st.h w) (some e)) cs us →
    Handed D e st.h ∧ (∀ p ob, hget H0 p = some ob → ∃ c ob', asc D p = some c ∧ hget st.h c = some ob' ∧ OR (RB D B e w) e w c (ob.ren (piX D B))) ∧
      LR (VR (RB D B e w) (some e)) (as.map (AV.ren (piX D B))) us
theorem Ga.args {w0 : Bs} {Rd0 : Nat → Nat → Value → Prop} {e : Env} {a : Act} {w : World} (h : Ga w0 Rd0 e st a w) (args : Array Operand) : LR (VR (RDx w0 Rd0 e st.h w) (some e)) (args.toList.map st.ev) (args.toList.map a.eval) := by
  refine ⟨by simp, fun j c u h1 h2 => ?_⟩
  rw [List.getElem?_map] at h1 h2
  obtain ⟨x, hx, rfl⟩ := Option.map_eq_some_iff.1 h1
  rw [hx] at h2
  simp at h2
  subst h2
  exact h.ev x
theorem run_callOp {f : FuncId} (he : Enters P f) {args : Array Operand} {ts : Array TypeId} {a : Act} {w : World} :
    (execOp a.eval ⟨some d, .call ⟨.value (.func f), args, ts⟩, ty, pos, af, gd⟩).run P w = .ok (.enter f (args.toList.map a.eval).toArray) w := by
  have := run_callFunc he (args.map a.eval) w
  have e1 : (args.toList.map a.eval).toArray = args.map a.eval := by rw [← Array.toList_map]
  rw [e1]
  simpa [execOp, resolve, Act.eval, Deferred.ofValue, invoke] using this
/-- the operation enters f with arguments that are known -/
def ENT (P : Program) (o : Oper) (st : St) (f : FuncId) (avs : List AV) : Prop :=
  Enters P f → ∀ w0 Rd0 e a w, Ga w0 Rd0 e st a w → ∃ us, LR (VR (RDx w0 Rd0 e st.h w) (some e)) avs us ∧ ∀ w', (execOp a.eval o).run P w' = .ok (.enter f us.toArray) w'
theorem ENT.func {f : FuncId} {args : Array Operand} {ts : Array TypeId} : ENT P ⟨some d, .call ⟨.value (.func f), args, ts⟩, ty, pos, af, gd⟩ st f (args.toList.map st.ev) := fun he w0 Rd0 e a w h =>
  ⟨_, h.args args, fun w' => run_callOp he⟩
theorem run_callCl {x : Operand} {f : FuncId} {args : Array Operand} {ts : Array TypeId} {a : Act} {w : World} {us xs : List Value} (h : Enters P f) (hx : a.eval x = .func (.func f) us.toArray xs.toArray) :
    (execOp a.eval ⟨some d, .call ⟨.value x, args, ts⟩, ty, pos, af, gd⟩).run P w = .ok (.enter f (us ++ args.toList.map a.eval ++ xs).toArray) w := by
  have := run_callFunc h (us.toArray ++ args.map a.eval ++ xs.toArray) w
  have e1 : (us ++ args.toList.map a.eval ++ xs).toArray = us.toArray ++ args.map a.eval ++ xs.toArray := by
    rw [← Array.toList_inj]; simp
  rw [e1]
  simpa [execOp, resolve, hx, Deferred.ofValue, invoke] using this
theorem ENT.val {x : Operand} {f : FuncId} {args : Array Operand} {ts : Array TypeId} (hx : st.ev x = .v (.func (.func f) #[] #[])) : ENT P ⟨some d, .call ⟨.value x, args, ts⟩, ty, pos, af, gd⟩ st f (args.toList.map st.ev) := fun he w0 Rd0 e a w h => by
  refine ⟨_, h.args args, fun w' => ?_⟩
  have hv := h.ev x
  rw [hx] at hv
  have := run_callCl (P := P) (d := d) (ty := ty) (pos := pos) (af := af) (gd := gd) (x := x) (args := args) (ts := ts) (a := a) (w := w') (us := []) (xs := []) he hv.v_inv
  simpa using this
theorem ENT.cl {x : Operand} {f : FuncId} {args : Array Operand} {ts : Array TypeId} {fs cs : List AV} (hx : st.ev x = .cl (.func f) fs cs) : ENT P ⟨some d, .call ⟨.value x, args, ts⟩, ty, pos, af, gd⟩ st f (fs ++ args.toList.map st.ev ++ cs) := fun he w0 Rd0 e a w h => by
  have hv := h.ev x
  rw [hx] at hv
  generalize hax : a.eval x = u at hv
  cases hv with
  | cl us xs hl hl2 hc hc2 =>
    exact ⟨_, (LR.append ⟨hl, hc⟩ (h.args args)).append ⟨hl2, hc2⟩, fun w' => run_callCl he hax⟩
theorem LR.unren {Rd Rd' : Nat → Nat → Value → Prop} {e : Env} {D : List (Nat × Nat)} {B : Nat} {as : List AV} {us : List Value} (h : LR (VR Rd (some e)) (as.map (AV.ren (piX D B))) us) (hR : ∀ b o u, Rd b o u → Rd' b o u) : LR (VR Rd' (some (e.pi D B))) as us :=
  ⟨by simpa using h.1, fun j c u hc hu => ((h.2 j (c.ren (piX D B)) u (by simp [hc]) hu).mono hR).unren (piX D B) (e' := e.pi D B) (fun _ => rfl) (fun _ => rfl) rfl rfl⟩
/-- behind the callee's return -/
theorem Ga.back {w0 : Bs} {Rd0 : Nat → Nat → Value → Prop} {e e2 : Env} {a : Act} {w w' : World} {D : List (Nat × Nat)} {B : Nat} {H : Hp} {r : AV} {v : Value} (h1 : Ga w0 Rd0 e st a w) (hp : Handed D e st.h) (hD : okD B D = true) (hs2 : SR (cB D B e w) (cRd D B w0 Rd0 e st.h w) e2 H w')
    (hv : VR (RDx (cB D B e w) (cRd D B w0 Rd0 e st.h w) e2 H w') (some e2) r v) (hH : smallX D H = true) (hn : r.nom (fun k => !okN D k) = true) (hd : d < st.n) :
    Ga w0 Rd0 (e.joinX D B e2) ⟨st.n, (d, r.ren (piX D B)) :: tkilp (inB B) st.t, hren (piX D B) H ++ (hdel D ++ hkilp (inB B) st.h)⟩ (a.put (some d) v) w' := by
  obtain ⟨j1, j2, j3, j4⟩ := SR.joinX h1.sr hp hD hs2 hH
  refine ⟨by simpa [Act.put] using h1.n, h1.d, j1, TR.put (fun i => ?_) (by rw [h1.n.1]; exact hd) ?_⟩
  · rw [tget_kilp]
    exact ((((h1.tr i).mono j2).kilp _).envp rfl (inB B) (kilp_nom _ _) (fun j hj => by simp [Env.joinX, hj]) (fun j hj => by simp [Env.joinX, hj]))
  · exact (hv.mono j3).renp _ hn (piX D B) (fun j hj => (j4 j (by simpa using hj)).1) (fun j hj => (j4 j (by simpa using hj)).2)
/-- CALL -/
theorem SS.callX {f : FuncId} {op : Op} {avs : List AV} {D : List (Nat × Nat)} {h' H0 H : Hp} {as : List AV} {r : AV} (hr : RCX P f H0 as H r) (hen : ENT P ⟨some d, op, ty, pos, af, gd⟩ st f avs) (hg : Gives st D (1000 * (d + 1)) h' H0 as avs) (hD : okD (1000 * (d + 1)) D = true) (hH : smallX D H = true) (hn : r.nom (fun k => !okN D k) = true) (hd : d < st.n)
    (hK : K ⟨st.n, (d, r.ren (piX D (1000 * (d + 1)))) :: tkilp (inB (1000 * (d + 1))) st.t, hren (piX D (1000 * (d + 1))) H ++ (hdel D ++ hkilp (inB (1000 * (d + 1))) h')⟩) : SS P ⟨some d, op, ty, pos, af, gd⟩ st K := by
  intro w0 Rd0 e a w next Q h hn'
  obtain ⟨us, hus, hrun⟩ := hen hr.1 w0 Rd0 e a w h
  obtain ⟨e1, l, hp, hm, hv⟩ := hg w0 Rd0 e w _ h.sr hus
  have h1 := h.lent l
  have hs := h1.sr.enterX hp hD hm
  have hcall := hr.2 _ _ _ w us hs (hv.unren fun b o u hh => hh.enterX hp fun p ob hpo => by
    obtain ⟨c, ob', x, y, _⟩ := hm p ob hpo
    exact ⟨c, x, ob', y⟩)
  unfold Oper.wp
  rw [hrun w]
  show Calls P f _ w _
  refine hcall.mono fun x w' hx => ?_
  obtain ⟨v, e2, rfl, hs2, hv2⟩ := hx
  exact hn' _ hK _ _ _ (h1.back hp hD hs2 hv2 hH hn hd)
/-- CALL of a function that keeps nothing of what it is handed -/
theorem SS.callP {f : FuncId} {op : Op} {avs : List AV} {D : List (Nat × Nat)} {H0 H : Hp} {as : List AV} {r : AV} (hr : RCX P f H0 as H r) (hpr : r.pu = true) (hpH : hpPu H) (hen : ENT P ⟨some d, op, ty, pos, af, gd⟩ st f avs) (hg : GivesP st D (1000 * (d + 1)) H0 as avs) (hD : okD (1000 * (d + 1)) D = true) (hH : smallX D H = true) (hn : r.nom (fun k => !okN D k) = true) (hd : d < st.n)
    (hK : K ⟨st.n, (d, r.ren (piX D (1000 * (d + 1)))) :: tkilp (inB (1000 * (d + 1))) st.t, hren (piX D (1000 * (d + 1))) H ++ (hdel D ++ hkilp (inB (1000 * (d + 1))) st.h)⟩) : SS P ⟨some d, op, ty, pos, af, gd⟩ st K := by
  intro w0 Rd0 e a w next Q h hn'
  obtain ⟨us, hus, hrun⟩ := hen hr.1 w0 Rd0 e a w h
  obtain ⟨hp, hm, hv⟩ := hg w0 Rd0 e w _ h.sr hus
  have hgood : Good (RB D (1000 * (d + 1)) e w) (cB D (1000 * (d + 1)) e w) := ⟨fun b o u hh => hh, fun b o u hg => ⟨(h.sr.glob hg).1, h.sr.globX hp hg⟩⟩
  have hRB : ∀ b o u, RB D (1000 * (d + 1)) e w b o u → RDx (cB D (1000 * (d + 1)) e w) (RB D (1000 * (d + 1)) e w) (e.pi D (1000 * (d + 1))) H0 w b o u := fun b o u hh => ⟨hh.1, fun _ => hh, fun p ob hpo hb => by
    obtain ⟨c, ob', x, y, _⟩ := hm p ob hpo
    refine absurd (.inr ⟨p, c, x, ?_⟩) hh.2
    have e1 : piX D (1000 * (d + 1)) p = c := by simp [piX, x]
    simpa only [Env.pi, e1] using hb⟩
  have hpi : ∀ {p c}, asc D p = some c → piX D (1000 * (d + 1)) p = c := fun {p c} hc => by simp [piX, hc]
  have hs : SR (cB D (1000 * (d + 1)) e w) (RB D (1000 * (d + 1)) e w) (e.pi D (1000 * (d + 1))) H0 w := by
    refine ⟨⟨rfl, rfl, rfl, Nat.le_refl _, fun _ _ => rfl⟩, hgood, fun p ob hpo => ?_, fun p ob b hpo hb => ?_, fun p p' ob ob' b hpo hpo' hb hb' => ?_, fun k _ => ⟨rfl, rfl⟩⟩
    · obtain ⟨c, ob', hc, ho', ho⟩ := hm p ob hpo
      rw [← hpi hc] at ho
      exact (OR.unren (piX D (1000 * (d + 1))) ho (e' := e.pi D (1000 * (d + 1))) (fun _ => rfl) (fun _ => rfl) rfl).mono hRB
    · obtain ⟨c, ob', hc, ho', _⟩ := hm p ob hpo
      simp only [Env.pi, hpi hc] at hb
      exact ⟨.inr ⟨p, c, hc, hb⟩, (h.sr.base c ob' b ho' hb).2⟩
    · obtain ⟨c, ob1, hc, ho1, _⟩ := hm p ob hpo
      obtain ⟨c', ob2, hc', ho2, _⟩ := hm p' ob' hpo'
      simp only [Env.pi, hpi hc] at hb
      simp only [Env.pi, hpi hc'] at hb'
      have := h.sr.inj _ _ _ _ _ ho1 ho2 hb hb'
      subst this
      simp only [okD, Bool.and_eq_true] at hD
      have r1 := rac_of hD.1.2 (asc_mem hc)
      have r2 := rac_of hD.1.2 (asc_mem hc')
      rw [r1] at r2
      exact Option.some.inj r2
  have hcall := hr.2 _ _ _ w us hs (hv.unren hRB)
  unfold Oper.wp
  rw [hrun w]
  show Calls P f _ w _
  refine hcall.mono fun x w' hx => ?_
  obtain ⟨v, e2, rfl, hs2, hv2⟩ := hx
  exact hn' _ hK _ _ _ (h.back hp hD (hs2.pure hpH ⟨fun b o u hh => ⟨hh.1.1, hh.2⟩, fun b o u hg => ⟨h.sr.glob hg, h.sr.globX hp hg⟩⟩) (hv2.pure hpr) hH hn hd)

/-- a step, behind its guard -/
def GS (P : Program) (ops : Array Oper) (o : Oper) (st : St) (K : St → Prop) : Prop :=
  ∀ w0 Rd0 e a w next Q, Ga w0 Rd0 e st a w → (∀ st', K st' → ∀ e' a' w', Ga w0 Rd0 e' st' a' w' → next a' w') →
    if Region.wanted o (yielded ops a.tmps) then o.wp P a w next Q else next (a.put o.dst undef) w
theorem GS.plain {ops : Array Oper} {o : Oper} (hg : o.guard = none) (h : SS P o st K) : GS P ops o st K := by
  intro w0 Rd0 e a w next Q hga hn
  rw [if_pos (by simp [Region.wanted, hg])]
  exact h w0 Rd0 e a w next Q hga hn
theorem Ga.yielded {ops : Array Oper} {w0 : Bs} {Rd0 : Nat → Nat → Value → Prop} {e : Env} {a : Act} {w : World} (h : Ga w0 Rd0 e st a w) {j s : Nat} {b : Bool} (hj : (ops[j]?).bind (·.dst) = some s) (hs : s < st.n) (hv : tget st.t s = .v (.bool b)) : yielded ops a.tmps j = some b := by
  have := h.tr s
  rw [hv] at this
  have := this.v_inv
  have hlt : s < a.tmps.size := by rw [h.n.1]; exact hs
  have h2 : a.tmps[s]? = some (.bool b) := by
    rw [Array.getElem?_eq_getElem hlt]
    simp [Array.getD_eq_getD_getElem?, Array.getElem?_eq_getElem hlt] at this
    rw [this]
  unfold Go.yielded
  rw [hj]
  simp [h2]
theorem GS.taken {ops : Array Oper} {o : Oper} {j s : Nat} {b : Bool} (hg : o.guard = some (j, b)) (hj : (ops[j]?).bind (·.dst) = some s) (hs : s < st.n) (hv : tget st.t s = .v (.bool b)) (h : SS P o st K) : GS P ops o st K := by
  intro w0 Rd0 e a w next Q hga hn
  rw [if_pos (by simp [Region.wanted, hg, hga.yielded hj hs hv])]
  exact h w0 Rd0 e a w next Q hga hn
theorem GS.left {ops : Array Oper} {dd : Option Nat} {op : Op} {j s : Nat} {b c : Bool} (hg : gd = some (j, b)) (hj : (ops[j]?).bind (·.dst) = some s) (hs : s < st.n) (hv : tget st.t s = .v (.bool c)) (hbc : (c == b) = false) (hd : ∀ d, dd = some d → d < st.n)
    (hK : K ⟨st.n, match dd with | some d => (d, .v undef) :: st.t | none => st.t, st.h⟩) : GS P ops ⟨dd, op, ty, pos, af, gd⟩ st K := by
  intro w0 Rd0 e a w next Q hga hn
  have hw : ¬ Region.wanted (⟨dd, op, ty, pos, af, gd⟩ : Oper) (Go.yielded ops a.tmps) = true := by
    simp only [Region.wanted, hg, hga.yielded hj hs hv]
    simpa using hbc
  rw [if_neg hw]
  refine hn _ hK e _ _ ?_
  cases dd with
  | none => exact hga
  | some d => exact hga.put (hd d rfl) .v

theorem GS.leftU {ops : Array Oper} {dd : Option Nat} {op : Op} {j s : Nat} {b : Bool} (hg : gd = some (j, b)) (hj : (ops[j]?).bind (·.dst) = some s) (hs : s < st.n) (hv : tget st.t s = .v undef) (hd : ∀ d, dd = some d → d < st.n)
    (hK : K ⟨st.n, match dd with | some d => (d, .v undef) :: st.t | none => st.t, st.h⟩) : GS P ops ⟨dd, op, ty, pos, af, gd⟩ st K := by
  intro w0 Rd0 e a w next Q hga hn
  have hy : Go.yielded ops a.tmps j = none := by
    have := hga.tr s
    rw [hv] at this
    have := this.v_inv
    have hlt : s < a.tmps.size := by rw [hga.n.1]; exact hs
    have h2 : a.tmps[s]? = some undef := by
      rw [Array.getElem?_eq_getElem hlt]
      simp [Array.getD_eq_getD_getElem?, Array.getElem?_eq_getElem hlt] at this
      rw [this]
    unfold Go.yielded
    rw [hj]
    simp [h2, undef]
  have hw : ¬ Region.wanted (⟨dd, op, ty, pos, af, gd⟩ : Oper) (Go.yielded ops a.tmps) = true := by
    simp only [Region.wanted, hg, hy]
    simp
  rw [if_neg hw]
  refine hn _ hK e _ _ ?_
  cases dd with
  | none => exact hga
  | some d => exact hga.put (hd d rfl) .v
theorem GS.left1 {ops : Array Oper} {dd : Option Nat} {op : Op} {j s : Nat} (hg : gd = some (j, true)) (hj : (ops[j]?).bind (·.dst) = some s) (hs : s < st.n) (hd : ∀ d, dd = some d → d < st.n) (hv : tget st.t s = .v (.bool false))
    (hK : K ⟨st.n, match dd with | some d => (d, .v undef) :: st.t | none => st.t, st.h⟩) : GS P ops ⟨dd, op, ty, pos, af, gd⟩ st K := GS.left hg hj hs hv rfl hd hK
theorem GS.left0 {ops : Array Oper} {dd : Option Nat} {op : Op} {j s : Nat} (hg : gd = some (j, false)) (hj : (ops[j]?).bind (·.dst) = some s) (hs : s < st.n) (hd : ∀ d, dd = some d → d < st.n) (hv : tget st.t s = .v (.bool true))
    (hK : K ⟨st.n, match dd with | some d => (d, .v undef) :: st.t | none => st.t, st.h⟩) : GS P ops ⟨dd, op, ty, pos, af, gd⟩ st K := GS.left hg hj hs hv rfl hd hK
/-- the operations of a region, one after the other -/
def AL (P : Program) (ops : Array Oper) (l : List Oper) (st : St) (K : St → Prop) : Prop :=
  ∀ w0 Rd0 e a w Q, Ga w0 Rd0 e st a w → (∀ st', K st' → ∀ e' a' w', Ga w0 Rd0 e' st' a' w' → Q .normal a' w') → wpList P ops Q l a w
theorem AL.nil {ops : Array Oper} (h : K st) : AL P ops [] st K := fun w0 Rd0 e a w Q hga hn => hn _ h e a w hga
theorem AL.cons {ops : Array Oper} {o : Oper} {rest : List Oper} (h : ∀ K' : St → Prop, (∀ st', AL P ops rest st' K → K' st') → GS P ops o st K') : AL P ops (o :: rest) st K := by
  intro w0 Rd0 e a w Q hga hn
  refine wpList_step fun K1 hK1 => ?_
  exact h (fun st' => AL P ops rest st' K) (fun _ h => h) w0 Rd0 e a w K1 Q hga fun st' hst' e' a' w' hga' => hK1 a' w' (hst' w0 Rd0 e' a' w' Q hga' hn)

/-- CODE: from a frame known as st one comes out as 'Post' says -/
def AC (P : Program) (c : Code) (st : St) (Post : Exit → St → Prop) : Prop :=
  ∀ w0 Rd0 e a w Q, Ga w0 Rd0 e st a w → (∀ x st', Post x st' → ∀ e' a' w', Ga w0 Rd0 e' st' a' w' → Q x a' w') → c.wp P Q a w
variable {Post : Exit → St → Prop}
def PThen (next : St → Prop) (Post : Exit → St → Prop) : Exit → St → Prop
  | .normal, st => next st
  | x, st => Post x st
def PBlock (id : Nat) (Post : Exit → St → Prop) : Exit → St → Prop
  | .exit i, st => if i = id then Post .normal st else Post (.exit i) st
  | x, st => Post x st
theorem AC.region {id : Nat} {l : List Oper} (h : AL P l.toArray l st (Post .normal)) : AC P (.region id l.toArray false) st Post := fun w0 Rd0 e a w Q hga hn =>
  wp_region_lit (h w0 Rd0 e a w Q hga fun st' hst' e' a' w' hg => hn .normal st' hst' e' a' w' hg)
theorem AC.seq {x y : Code} (h : AC P x st (PThen (fun st' => AC P y st' Post) Post)) : AC P (.seq x y) st Post := fun w0 Rd0 e a w Q hga hn => by
  refine wp_seq (h w0 Rd0 e a w _ hga fun ex st' hst' e' a' w' hg => ?_)
  cases ex with
  | normal => exact hst' w0 Rd0 e' a' w' Q hg hn
  | exit id => exact hn _ st' hst' e' a' w' hg
  | goto l => exact hn _ st' hst' e' a' w' hg
  | ret => exact hn _ st' hst' e' a' w' hg
  | panic ch => exact hn _ st' hst' e' a' w' hg
  | outgrown => exact hn _ st' hst' e' a' w' hg
/-- what follows stands behind a name -/
theorem AC.seqK {x y : Code} (h : ∀ K : St → Prop, (∀ st', AC P y st' Post → K st') → AC P x st (PThen K Post)) : AC P (.seq x y) st Post := .seq (h _ fun _ h => h)
theorem AC.cond {c : Operand} {x y : Code} {b : Bool} (hc : st.ev c = .v (.bool b)) (h : AC P (if b then x else y) st Post) : AC P (.cond c x y) st Post := fun w0 Rd0 e a w Q hga hn => by
  have hv := hga.ev c
  rw [hc] at hv
  exact wp_cond hv.v_inv (h w0 Rd0 e a w Q hga hn)
theorem AC.condT {c : Operand} {x y : Code} (hc : st.ev c = .v (.bool true)) (h : AC P x st Post) : AC P (.cond c x y) st Post := .cond hc h
theorem AC.condF {c : Operand} {x y : Code} (hc : st.ev c = .v (.bool false)) (h : AC P y st Post) : AC P (.cond c x y) st Post := .cond hc h
theorem AC.split {c : Operand} {x y : Code} {p : Prop} [Decidable p] (hc : st.ev c = .v (.bool (decide p))) (ht : p → AC P x st Post) (hf : ¬ p → AC P y st Post) : AC P (.cond c x y) st Post := by
  by_cases hp : p
  · exact .cond hc (by simpa [hp] using ht hp)
  · exact .cond hc (by simpa [hp] using hf hp)
theorem AC.block {id : Nat} {c : Code} (h : AC P c st (PBlock id Post)) : AC P (.block id c) st Post := fun w0 Rd0 e a w Q hga hn => by
  refine wp_block (h w0 Rd0 e a w _ hga fun ex st' hst' e' a' w' hg => ?_)
  cases ex with
  | normal => exact hn _ st' hst' e' a' w' hg
  | exit id' =>
    simp only [PBlock] at hst'
    simp only [Exit.inBlock]
    split at hst'
    · rename_i hid; rw [if_pos hid]; exact hn _ st' hst' e' a' w' hg
    · rename_i hid; rw [if_neg hid]; exact hn _ st' hst' e' a' w' hg
  | goto l => exact hn _ st' hst' e' a' w' hg
  | ret => exact hn _ st' hst' e' a' w' hg
  | panic ch => exact hn _ st' hst' e' a' w' hg
  | outgrown => exact hn _ st' hst' e' a' w' hg
theorem AC.scope {c : Code} (h : AC P c st fun x s => (∀ l, x ≠ .goto l) ∧ Post x s) : AC P (.scope c) st Post := fun w0 Rd0 e a w Q hga hn =>
  wp_scope_straight (h w0 Rd0 e a w _ hga fun ex st' hst' e' a' w' hg => by
    cases ex with
    | goto l => exact absurd rfl (hst'.1 l)
    | normal => exact hn _ st' hst'.2 e' a' w' hg
    | exit id => exact hn _ st' hst'.2 e' a' w' hg
    | ret => exact hn _ st' hst'.2 e' a' w' hg
    | panic ch => exact hn _ st' hst'.2 e' a' w' hg
    | outgrown => exact hn _ st' hst'.2 e' a' w' hg)
theorem AC.skip (h : Post .normal st) : AC P .skip st Post := fun w0 Rd0 e a w Q hga hn => wp_skip (hn _ st h e a w hga)
theorem AC.label {l : Nat} (h : Post .normal st) : AC P (.label l) st Post := fun w0 Rd0 e a w Q hga hn => wp_label (hn _ st h e a w hga)
theorem AC.exit {id : Nat} (h : Post (.exit id) st) : AC P (.exit id) st Post := fun w0 Rd0 e a w Q hga hn => wp_exit (hn _ st h e a w hga)
theorem AC.ret (h : Post .ret st) : AC P .ret st Post := fun w0 Rd0 e a w Q hga hn => wp_ret (hn _ st h e a w hga)

/-- a frame known as st is known as st2 too -/
def SLe (P : Program) (st st2 : St) : Prop := ∀ w0 Rd0 e a w, Ga w0 Rd0 e st a w → ∃ e', Ga w0 Rd0 e' st2 a w
theorem SLe.refl {P : Program} {st : St} : SLe P st st := fun _ _ e _ _ h => ⟨e, h⟩
theorem SLe.trans {P : Program} {s1 s2 s3 : St} (h : SLe P s1 s2) (k : SLe P s2 s3) : SLe P s1 s3 := fun w0 Rd0 e a w hg => let ⟨e', hg'⟩ := h w0 Rd0 e a w hg; k w0 Rd0 e' a w hg'
theorem AC.le {c : Code} {st2 : St} (hs : SLe P st st2) (h : AC P c st2 Post) : AC P c st Post := fun w0 Rd0 e a w Q hga hn => let ⟨e', hg⟩ := hs w0 Rd0 e a w hga; h w0 Rd0 e' a w Q hg hn
theorem AL.le {ops : Array Oper} {l : List Oper} {st2 : St} (hs : SLe P st st2) (h : AL P ops l st2 K) : AL P ops l st K := fun w0 Rd0 e a w Q hga hn => let ⟨e', hg⟩ := hs w0 Rd0 e a w hga; h w0 Rd0 e' a w Q hg hn
theorem GS.le {ops : Array Oper} {o : Oper} {st2 : St} (hs : SLe P st st2) (h : GS P ops o st2 K) : GS P ops o st K := fun w0 Rd0 e a w next Q hga hn => let ⟨e', hg⟩ := hs w0 Rd0 e a w hga; h w0 Rd0 e' a w next Q hg hn
theorem AC.mono {c : Code} {Post' : Exit → St → Prop} (h : AC P c st Post) (hp : ∀ x st', Post x st' → Post' x st') : AC P c st Post' := fun w0 Rd0 e a w Q hga hn => h w0 Rd0 e a w Q hga fun x st' hst' => hn x st' (hp x st' hst')

/-- LOOP: I x are the states at its head -/
theorem AC.loop {c : Code} {α : Type} (I : α → St) (μ : α → Nat) (x0 : α) (h0 : SLe P st (I x0))
    (round : ∀ x, AC P c (I x) (PThen (fun st' => ∃ x', SLe P st' (I x') ∧ μ x' < μ x) Post)) : AC P (.loop c) st Post := by
  intro w0 Rd0 e a w Q hga hn
  obtain ⟨e0, hg0⟩ := h0 w0 Rd0 e a w hga
  have key : ∀ n x, μ x < n → ∀ e a w, Ga w0 Rd0 e (I x) a w → Code.rounds P c Q n a w := by
    intro n
    induction n with
    | zero => intro x hx; omega
    | succ n ih =>
      intro x hx e a w hg
      refine round x w0 Rd0 e a w (Exit.then (Code.rounds P c Q n) Q) hg fun ex st' hst' e' a' w' hg' => ?_
      cases ex with
      | normal =>
        obtain ⟨x', hle, hlt⟩ := hst'
        obtain ⟨e2, hg2⟩ := hle w0 Rd0 e' a' w' hg'
        exact ih x' (by omega) e2 a' w' hg2
      | exit id => exact hn _ st' hst' e' a' w' hg'
      | goto l => exact hn _ st' hst' e' a' w' hg'
      | ret => exact hn _ st' hst' e' a' w' hg'
      | panic ch => exact hn _ st' hst' e' a' w' hg'
      | outgrown => exact hn _ st' hst' e' a' w' hg'
  exact wp_loop_rounds _ (key _ x0 (Nat.lt_succ_self _) e0 a w hg0)
end
end Go.Proofs.Ytggnolfcgaglfaa
