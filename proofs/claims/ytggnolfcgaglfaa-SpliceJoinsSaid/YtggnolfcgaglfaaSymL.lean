/- Entry, results; a frame that is known as less, or otherwise. -/
import Derived.Test.YtggnolfcgaglfaaSymK
set_option linter.unusedVariables false
set_option linter.unusedSimpArgs false
namespace Go.Proofs.Ytggnolfcgaglfaa
open Go Go.RowKit

/-! ### loads, as a function -/
def cellsF (st : St) (p : AV) (n : Nat) : Option (List AV) :=
  match p with
  | .pt k o => match hget st.h k with
    | some (.box t cs0) => if t ≠ itT ∧ o + n ≤ cs0.length then some ((cs0.drop o).take n) else none
    | _ => none
  | .pe k i sz o => match hget st.h k with
    | some (.arr _ sz' rows _) => match rows[i]? with
      | some r => if o + n ≤ r.length ∧ sz' = sz then some ((r.drop o).take n) else none
      | none => none
    | some (.nr _ cs0) => match cs0[i]? with
      | some c => if sz = 1 ∧ o = 0 ∧ n = 1 then some [c] else none
      | none => none
    | _ => none
  | .fp cs => if n ≤ cs.length then some (cs.take n) else none
  | _ => none
theorem cellsF_at {st : St} {p : AV} {n : Nat} {cs : List AV} (h : cellsF st p n = some cs) : cellsAt st p n cs := by
  unfold cellsF at h
  split at h
  · rename_i k o
    split at h
    · rename_i t cs0 hk
      split at h
      · rename_i hn; simp only [Option.some.injEq] at h; exact ⟨t, cs0, hk, hn.1, hn.2, h.symm⟩
      · cases h
    · cases h
  · rename_i k i sz o
    split at h
    · rename_i t sz' rows wr hk
      split at h
      · rename_i r hr
        split at h
        · rename_i hn
          obtain ⟨hn, rfl⟩ := hn
          simp only [Option.some.injEq] at h
          exact .inl ⟨t, rows, wr, r, hk, hr, hn, h.symm⟩
        · cases h
      · cases h
    · rename_i t cs0 hk
      split at h
      · rename_i c hc
        split at h
        · rename_i hn
          simp only [Option.some.injEq] at h
          exact .inr ⟨t, cs0, c, hk, hc, hn.1, hn.2.1, hn.2.2, h.symm⟩
        · cases h
      · cases h
    · cases h
  · rename_i cs0
    split at h
    · rename_i hn; simp only [Option.some.injEq] at h; exact ⟨hn, h.symm⟩
    · cases h
  · cases h
def wrapA : Bool → List AV → Option AV
  | true, cs => some (.ag cs)
  | false, [c] => some c
  | false, _ => none
def loadF (P : Program) (st : St) (p : AV) (t : TypeId) : Option AV :=
  match tyA P t with
  | some (ag, n) => match cellsF st p n with
    | some cs => wrapA ag cs
    | none => none
  | none => none
theorem loadF_ok {P : Program} {st : St} {p c : AV} {t : TypeId} (h : loadF P st p t = some c) : ∃ ag n cs, tyA P t = some (ag, n) ∧ cellsAt st p n cs ∧ ((ag = true ∧ c = .ag cs) ∨ (ag = false ∧ cs = [c])) := by
  unfold loadF at h
  split at h
  · rename_i ag n ht
    split at h
    · rename_i cs hc
      refine ⟨ag, n, cs, ht, cellsF_at hc, ?_⟩
      unfold wrapA at h
      split at h
      · simp only [Option.some.injEq] at h; exact .inl ⟨rfl, h.symm⟩
      · simp only [Option.some.injEq] at h; subst h; exact .inr ⟨rfl, rfl⟩
      · cases h
    · cases h
  · cases h

section
variable {P : Program} {st : St} {d : Option Tmp} {ty : TypeId} {pos : String} {af : Array Edge} {gd : Option (Nat × Bool)} {K : St → Prop}

theorem RS.loadF {t : TypeId} {x : Operand} {c : AV} (h : loadF P st (st.ev x) t = some c) : RS P ⟨d, .load t x, ty, pos, af, gd⟩ st c := by
  obtain ⟨ag, n, cs, h1, h2, h3⟩ := loadF_ok h
  exact RS.load h1 h2 h3

/-! ### what a frame returns -/
def resF (P : Program) (st : St) : List ResultVar → Option (List AV)
  | [] => some []
  | .tmp i :: rs => match resF P st rs with
    | some cs => some (tget st.t i :: cs)
    | none => none
  | .cell a t :: rs => match loadF P st (tget st.t a) t, resF P st rs with
    | some c, some cs => some (c :: cs)
    | _, _ => none
def oneF : List AV → AV
  | [c] => c
  | cs => .tu cs
def resOne (tmps : Array Value) (r : ResultVar) : Sem Value :=
  match r with
  | .tmp t => pure (tmps.getD t undef)
  | .cell a t => do loadVar t (← asAddr (tmps.getD a undef))
theorem results_eq (fn : Func) (tmps : Array Value) : results fn tmps = (do
    let vs ← fn.results.mapM (resOne tmps)
    pure (if h : vs.size = 1 then vs[0] else .tuple vs)) := by
  unfold results
  congr 1
theorem resF_ok {w0 : Bs} {Rd0 : Nat → Nat → Value → Prop} {e : Env} {a : Act} {w : World} (h : Ga w0 Rd0 e st a w) : ∀ (rs : List ResultVar) (cs : List AV), resF P st rs = some cs →
    ∃ us, (rs.mapM (resOne a.tmps)).run P w = .ok us w ∧ LR (VR (RDx w0 Rd0 e st.h w) (some e)) cs us
  | [], cs, hc => by
    simp only [resF, Option.some.injEq] at hc
    subst hc
    exact ⟨[], by simp, LR.nil⟩
  | .tmp i :: rs, cs, hc => by
    simp only [resF] at hc
    split at hc
    · rename_i cs' hr
      simp only [Option.some.injEq] at hc
      subst hc
      obtain ⟨us, hrun, hlr⟩ := resF_ok h rs cs' hr
      refine ⟨_ :: us, ?_, LR.cons (h.tr i) hlr⟩
      rw [List.mapM_cons]
      simp only [resOne, Sem.run_bind, Sem.run_pure, Result.andThen_ok, hrun]
    · cases hc
  | .cell x t :: rs, cs, hc => by
    simp only [resF] at hc
    split at hc
    · rename_i c cs' hl hr
      simp only [Option.some.injEq] at hc
      subst hc
      obtain ⟨us, hrun, hlr⟩ := resF_ok h rs cs' hr
      obtain ⟨ag, n, cells, h1, h2, h3⟩ := loadF_ok hl
      obtain ⟨b, o, vs, hv, hvl, hvlr, hcell⟩ := cellsAt_ok h h2 (h.tr x)
      have hld := run_loadVar' (P := P) h1 (b := b) (o := o) (us := vs) (w := w) hvl hcell
      rcases h3 with ⟨hag, rfl⟩ | ⟨hag, rfl⟩
      · refine ⟨_ :: us, ?_, LR.cons (.ag vs hvlr.1 hvlr.2) hlr⟩
        rw [List.mapM_cons]
        simp only [resOne, Sem.run_bind, hv, asAddr, Sem.run_pure, Result.andThen_ok, hld.1 hag, hrun]
      · obtain ⟨u, rfl⟩ : ∃ u, vs = [u] := by
          match vs, hvlr.1 with
          | [u], _ => exact ⟨u, rfl⟩
        refine ⟨_ :: us, ?_, LR.cons (hvlr.2 0 c u rfl rfl) hlr⟩
        rw [List.mapM_cons]
        simp only [resOne, Sem.run_bind, hv, asAddr, Sem.run_pure, Result.andThen_ok, hld.2 hag u rfl, hrun]
    · cases hc

/-- at the end the frame is known as r, with H -/
def PRet (P : Program) (fn : Func) (H : Hp) (r : AV) (x : Exit) (st : St) : Prop :=
  (x = .normal ∨ x = .ret) ∧ ∃ t2 cs, SLe P st ⟨fn.ntmps, t2, H⟩ ∧ resF P ⟨fn.ntmps, t2, H⟩ fn.results.toList = some cs ∧ oneF cs = r

def entT : Nat → List AV → List (Nat × AV)
  | _, [] => []
  | i, c :: cs => (i, c) :: entT (i + 1) cs
theorem entT_get : ∀ (cs : List AV) (k i : Nat), tget (entT k cs) i = if k ≤ i then cs.getD (i - k) .un else .un
  | [], k, i => by simp [entT, tget]
  | c :: cs, k, i => by
    simp only [entT, tget]
    by_cases hi : i = k
    · subst hi; simp
    · rw [if_neg hi, entT_get cs (k + 1) i]
      by_cases hk : k + 1 ≤ i
      · have : k ≤ i := by omega
        simp only [hk, this, if_true]
        rw [show i - k = (i - (k + 1)) + 1 by omega]
        rfl
      · have : ¬ k ≤ i := by omega
        simp [hk, this]
theorem RCX.intro {f : FuncId} {fn : Func} {c : Code} {H0 : Hp} {as : List AV} {H : Hp} {r : AV} (hf : P.funcs[f]? = some fn) (hnm : (fn.name == "runtime.NumGoroutine") = false) (hb : fn.body = some c) (hlen : as.length ≤ fn.ntmps) (hbig : fn.ntmps ≤ 1000000)
    (h : AC P c ⟨fn.ntmps, entT 0 as, H0⟩ (PRet P fn H r)) : RCX P f H0 as H r := by
  refine ⟨⟨fn, hf, hnm, by rw [hb]; rfl⟩, fun B Rd e w vs hsr hv => calls_of_wp hf hb ?_⟩
  have hga : Ga B Rd e ⟨fn.ntmps, entT 0 as, H0⟩ { tmps := vs.toArray ++ Array.replicate (fn.ntmps - vs.toArray.size) undef, defers := [] } w := by
    refine ⟨⟨by simp [hv.1]; omega, hbig⟩, rfl, hsr, fun i => ?_⟩
    rw [entT_get]
    simp only [Nat.zero_le, if_true, Nat.sub_zero]
    by_cases hi : i < as.length
    · have hc : as[i]? = some as[i] := List.getElem?_eq_getElem hi
      obtain ⟨u, hu, hr⟩ := hv.get hc
      have e1 : as.getD i .un = as[i] := by simp [List.getD, hc]
      have e2 : (vs.toArray ++ Array.replicate (fn.ntmps - vs.toArray.size) undef).getD i undef = u := by
        have hiv : i < vs.length := by rw [hv.1]; exact hi
        simp [Array.getD_eq_getD_getElem?, Array.getElem?_append, hiv]
        rw [List.getElem?_eq_getElem hiv] at hu
        simpa using hu
      rw [e1, e2]
      exact hr
    · have e1 : as.getD i .un = .un := by simp [List.getD, List.getElem?_eq_none (Nat.le_of_not_lt hi)]
      rw [e1]
      exact .un
  refine h B Rd _ _ w _ hga fun x st' hx e' a' w' hg' => ?_
  obtain ⟨hx, t2, cs, hle, hres, rfl⟩ := hx
  obtain ⟨e2, hg2⟩ := hle B Rd e' a' w' hg'
  obtain ⟨us, hrun, hlr⟩ := resF_ok (P := P) hg2 _ _ hres
  have hresults : ∃ v, (results fn a'.tmps).run P w' = .ok v w' ∧ VR (RDx B Rd e2 H w') (some e2) (oneF cs) v := by
    have hm : (fn.results.mapM (resOne a'.tmps)).run P w' = .ok us.toArray w' := by
      rw [Array.mapM_eq_mapM_toList]
      simp only [Sem.run_map, hrun]
      rfl
    rw [results_eq]
    simp only [Sem.run_bind, hm, Result.andThen_ok, Sem.run_pure]
    refine ⟨_, rfl, ?_⟩
    match cs, us, hlr with
    | [], [], hlr => exact .tu [] rfl (by simp)
    | [c], [u], hlr => simpa [oneF] using hlr.2 0 c u rfl rfl
    | c :: c2 :: cs, u :: u2 :: us, hlr =>
      have : ¬ (u :: u2 :: us).toArray.size = 1 := by simp
      rw [dif_neg this]
      exact .tu _ hlr.1 hlr.2
    | [], u :: us, hlr => have := hlr.1; simp at this
    | [c], [], hlr => have := hlr.1; simp at this
    | [c], u :: u2 :: us, hlr => have := hlr.1; simp at this
    | c :: c2 :: cs, [], hlr => have := hlr.1; simp at this
    | c :: c2 :: cs, [u], hlr => have := hlr.1; simp at this
  obtain ⟨v, hv1, hv2⟩ := hresults
  rcases hx with rfl | rfl <;> exact ⟨hg2.d, v, hv1, v, e2, rfl, hg2.sr, hv2⟩

/-! ### known as less -/
theorem SLe.weak {n : Nat} {t t2 : List (Nat × AV)} {h h2 : Hp} (ht : ∀ i, tget t2 i = tget t i ∨ tget t2 i = .un) (hh : ∀ k, hget h2 k = hget h k ∨ hget h2 k = none) : SLe P ⟨n, t, h⟩ ⟨n, t2, h2⟩ := by
  intro w0 Rd0 e a w hg
  have back : ∀ k ob, hget h2 k = some ob → hget h k = some ob := fun k ob hk => by
    rcases hh k with h1 | h1
    · rw [← h1]; exact hk
    · rw [h1] at hk; cases hk
  have hR : ∀ b o u, RDx w0 Rd0 e h w b o u → RDx w0 Rd0 e h2 w b o u := fun b o u ⟨h1, h2, h3⟩ => ⟨h1, h2, fun k ob hk hb => h3 k ob (back k ob hk) hb⟩
  refine ⟨e, hg.n, hg.d, ⟨hg.sr.ext, hg.sr.good, fun k ob hk => (hg.sr.ob k ob (back k ob hk)).mono hR, fun k ob b hk hb => hg.sr.base k ob b (back k ob hk) hb, fun k k' ob ob' b hk hk' hb hb' => hg.sr.inj k k' ob ob' b (back k ob hk) (back k' ob' hk') hb hb', hg.sr.pin⟩, fun i => ?_⟩
  show VR _ _ (tget t2 i) _
  rcases ht i with h1 | h1
  · rw [h1]; exact (hg.tr i).mono hR
  · rw [h1]; exact .un
def keepT (t : List (Nat × AV)) : List Nat → List (Nat × AV)
  | [] => []
  | i :: is => (i, tget t i) :: keepT t is
def keepH (h : Hp) : List Nat → Hp
  | [] => []
  | k :: ks => (k, hget h k) :: keepH h ks
theorem keepT_get (t : List (Nat × AV)) : ∀ (is : List Nat) (i : Nat), tget (keepT t is) i = tget t i ∨ tget (keepT t is) i = .un
  | [], i => .inr rfl
  | j :: is, i => by
    simp only [keepT, tget]
    split
    · rename_i h; subst h; exact .inl rfl
    · exact keepT_get t is i
theorem keepH_get (h : Hp) : ∀ (ks : List Nat) (k : Nat), hget (keepH h ks) k = hget h k ∨ hget (keepH h ks) k = none
  | [], k => .inr rfl
  | j :: ks, k => by
    simp only [keepH, hget]
    split
    · rename_i h; subst h; exact .inl rfl
    · exact keepH_get h ks k
/-- just these slots, just these objects -/
theorem SLe.keep (is ks : List Nat) : SLe P st ⟨st.n, keepT st.t is, keepH st.h ks⟩ := .weak (keepT_get _ is) (keepH_get _ ks)
def LT (t : List (Nat × AV)) : List (Nat × AV) → Prop
  | [] => True
  | (i, c) :: t2 => tget t i = c ∧ LT t t2
def LH (h : Hp) : Hp → Prop
  | [] => True
  | (k, o) :: h2 => hget h k = o ∧ LH h h2
theorem LT_get {t : List (Nat × AV)} : ∀ {t2 : List (Nat × AV)}, LT t t2 → ∀ i, tget t2 i = tget t i ∨ tget t2 i = .un
  | [], _, i => .inr rfl
  | (j, c) :: t2, h, i => by
    simp only [tget]
    split
    · rename_i hij; subst hij; exact .inl h.1.symm
    · exact LT_get h.2 i
theorem LH_get {h : Hp} : ∀ {h2 : Hp}, LH h h2 → ∀ i, hget h2 i = hget h i ∨ hget h2 i = none
  | [], _, i => .inr rfl
  | (j, c) :: t2, h, i => by
    simp only [hget]
    split
    · rename_i hij; subst hij; exact .inl h.1.symm
    · exact LH_get h.2 i
/-- a frame that is known as more: just these rows -/
theorem SLe.pick {n : Nat} {t t2 : List (Nat × AV)} {h h2 : Hp} (ht : LT t t2) (hh : LH h h2) : SLe P ⟨n, t, h⟩ ⟨n, t2, h2⟩ := .weak (LT_get ht) (LH_get hh)
/-- an object's slice, handed out -/
theorem SLe.lend (i : Nat) {h' : Hp} {c : AV} (hl : lendA st.h (tget st.t i) = some (h', c)) : SLe P st ⟨st.n, (i, c) :: st.t, h'⟩ := by
  intro w0 Rd0 e a w hg
  obtain ⟨e', l, hv⟩ := lendA_ok hg.sr (hg.tr i) hl
  have hg' := hg.lent l
  refine ⟨e', hg'.n, hg'.d, hg'.sr, fun j => ?_⟩
  simp only [tget]
  split
  · rename_i hj; subst hj; exact hv.some_of_none
  · exact hg'.tr j
/-- the same, spelled otherwise -/
theorem SLe.same {n : Nat} {t t2 : List (Nat × AV)} {h h2 : Hp} (ht : ∀ i, tget t2 i = tget t i) (hh : ∀ k, hget h2 k = hget h k) : SLe P ⟨n, t, h⟩ ⟨n, t2, h2⟩ := .weak (fun i => .inl (ht i)) (fun k => .inl (hh k))
end

/-! ### names -/
def swp (a b k : Nat) : Nat := if k = a then b else if k = b then a else k
theorem swp_swp (a b k : Nat) : swp a b (swp a b k) = k := by
  unfold swp
  by_cases h1 : k = a
  · subst h1
    by_cases h2 : b = k <;> simp [h2]
  · by_cases h2 : k = b
    · subst h2; simp [h1]
    · simp [h1, h2]
theorem swp_inj (a b : Nat) : ∀ i j, swp a b i = swp a b j → i = j := fun i j h => by
  have := congrArg (swp a b) h
  rwa [swp_swp, swp_swp] at this
section
variable {P : Program} {st : St}
/-- names a and b, turned -/
theorem SLe.swap (x y : Nat) (hx0 : x < 4294967296) (hy0 : y < 4294967296) : SLe P st ⟨st.n, tren (swp x y) st.t, hren (swp x y) st.h⟩ := by
  intro w0 Rd0 e a w hg
  let e' : Env := ⟨fun k => e.blk (swp x y k), fun k => e.sv (swp x y k), fun k => e.lent (swp x y k)⟩
  have hb : ∀ j, e'.blk (swp x y j) = e.blk j := fun j => by simp [e', swp_swp]
  have hsv : ∀ j, e'.sv (swp x y j) = e.sv j := fun j => by simp [e', swp_swp]
  have hl : ∀ j, e'.lent (swp x y j) = e.lent j := fun j => by simp [e', swp_swp]
  have hget' : ∀ k, hget (hren (swp x y) st.h) k = (hget st.h (swp x y k)).map (Ob.ren (swp x y)) := fun k => by
    have := hget_ren (swp x y) (swp_inj x y) st.h (swp x y k)
    rwa [swp_swp] at this
  have back : ∀ k ob, hget (hren (swp x y) st.h) k = some ob → ∃ ob0, hget st.h (swp x y k) = some ob0 ∧ ob = ob0.ren (swp x y) := fun k ob hk => by
    rw [hget'] at hk
    obtain ⟨ob0, h0, h1⟩ := Option.map_eq_some_iff.1 hk
    exact ⟨ob0, h0, h1.symm⟩
  have hR : ∀ b o u, RDx w0 Rd0 e st.h w b o u → RDx w0 Rd0 e' (hren (swp x y) st.h) w b o u := fun b o u ⟨h1, h2, h3⟩ => ⟨h1, h2, fun k ob hk hbk => by
    obtain ⟨ob0, h0, _⟩ := back k ob hk
    exact h3 _ ob0 h0 hbk⟩
  refine ⟨e', hg.n, hg.d, ⟨hg.sr.ext, hg.sr.good, fun k ob hk => ?_, fun k ob b hk hbk => ?_, fun k k' ob ob' b hk hk' hbk hbk' => ?_, fun k hk => ?_⟩, fun i => ?_⟩
  · obtain ⟨ob0, h0, rfl⟩ := back k ob hk
    have := ((hg.sr.ob _ ob0 h0).mono hR).ren (e' := e') (swp x y) hb hsv hl
    rwa [swp_swp] at this
  · obtain ⟨ob0, h0, rfl⟩ := back k ob hk
    exact hg.sr.base _ ob0 b h0 hbk
  · obtain ⟨ob0, h0, rfl⟩ := back k ob hk
    obtain ⟨ob1, h1, rfl⟩ := back k' ob' hk'
    exact swp_inj x y _ _ (hg.sr.inj _ _ _ _ _ h0 h1 hbk hbk')
  · have : swp x y k = k := by unfold swp; rw [if_neg (by omega), if_neg (by omega)]
    simp only [e', this]
    exact hg.sr.pin k hk
  · show VR _ _ (tget (tren (swp x y) st.t) i) _
    rw [tget_ren]
    exact ((hg.tr i).mono hR).ren rfl (swp x y) hb hsv
/-- a slice with nothing in it, as the call's own -/
theorem SLe.own (i k : Nat) (hk0 : k < 4294967296) (t : TypeId) (sz : Nat) {sz0 : Nat} (hi : tget st.t i = .sl true sz0 []) (hin : i < st.n) : SLe P st ⟨st.n, (i, .ow k) :: tkill k st.t, (k, some (.arr t sz [] true)) :: hkill k st.h⟩ := by
  intro w0 Rd0 e a w hg
  have hv := hg.tr i
  rw [hi] at hv
  obtain ⟨ad, cap, us, hav, _, _, _, _, _, ht, _⟩ := hv.sl_inv
  have := ht rfl
  simp only [List.length_nil] at this hav
  subst this
  obtain ⟨hs1, hR1⟩ := hg.sr.kill k
  obtain ⟨hs2, hR2⟩ := hs1.newNil k t sz ad (hnom_kill k st.h) hk0
  refine ⟨_, hg.n, hg.d, hs2, fun j => ?_⟩
  simp only [tget]
  split
  · rename_i hj
    subst hj
    rw [hav]
    have := VR.ow (Rd := RDx w0 Rd0 (e.upd k none (.slice ad 0 0) 0) ((k, some (.arr t sz [] true)) :: hkill k st.h) w) (e := e.upd k none (.slice ad 0 0) 0) (k := k)
    rw [Env.upd_sv] at this
    exact this
  · exact ((((hg.tr.kill k).mono hR1).mono hR2).env k (tnom_kill k st.t) (fun _ hi => Env.upd_blk' hi) (fun _ hi => Env.upd_sv' hi)) j
end
end Go.Proofs.Ytggnolfcgaglfaa
