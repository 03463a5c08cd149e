/- Operations that make or write, reckoned. -/
import Derived.Test.YtggnolfcgaglfaaExD
set_option linter.unusedVariables false
set_option linter.unusedSimpArgs false
namespace Go.Proofs.Ytggnolfcgaglfaa
open Go Go.RowKit
noncomputable section

/-! ### cells of what is lent -/
theorem lendS_cells {hg : Nat → Option EOb} {h : Hp} {s : Sc} {c : EV} {x : s.Val} {os : EHp} {us us' : List Nat} (hl : lendS hg s c = some (x, os, us)) (hh : HC hg us' h) (hu : ∀ k, us.contains k = true → us'.contains k = true) (hs : s.w = 1 ∧ ∀ y : s.Val, encC s y = [encS s y]) :
    (∃ c1, lendC h (enc c) = some (encH os ++ h, c1) ∧ c1.one = true ∧ WkL [c1] (encC s x)) ∧ OsOk hg os := by
  obtain ⟨⟨c1, h1, h2⟩, h3⟩ := lendS_ok hl hh hu
  refine ⟨⟨c1, h1, ?_, by rw [hs.2]; exact .cons h2 .nil⟩, h3⟩
  unfold lendS at hl
  split at hl
  · rename_i k
    split at hl
    · rename_i t r xs wr hk
      split at hl
      · rename_i y hy
        simp only [Option.some.injEq, Prod.mk.injEq] at hl
        obtain ⟨rfl, rfl, rfl⟩ := hl
        obtain ⟨wr', hw⟩ := hh k (hu k (by simp)) t r _ wr hk
        simp only [enc, lendC, hw, Option.some.injEq, Prod.mk.injEq] at h1
        rw [← h1.2]; rfl
      · cases hl
    · cases hl
  · split at hl
    · rename_i y hy
      rw [lendC_fz (fz_asS hy)] at h1
      simp only [Option.some.injEq, Prod.mk.injEq] at h1
      rw [← h1.2]
      clear h1 h2 h3 hl hh hu
      cases c with
      | sc s' y' =>
        obtain ⟨rfl, rfl⟩ := castS_ok hy
        have := hs.1
        cases s' with
        | pr a q =>
          have h8 := encC_one (.pr a q) (zeroV (.pr a q)) .un (by rw [hs.2]; simp [encS])
          cases h8
        | u => simp [Sc.w] at this
        | _ => rfl
      | nil => rfl
      | ts r xs => rfl
      | _ => simp [asS] at hy
    · cases hl
theorem lendJ_one {hg : Nat → Option EOb} : ∀ (s : Sc) {h : Hp} {cs rest : List EV} {x : s.Val} {os : EHp} {us us' : List Nat} (hl : lendJ hg s cs = some (x, rest, os, us)) (hh : HC hg us' h) (hu : ∀ k, us.contains k = true → us'.contains k = true),
    (∃ cs0 cs1, cs = cs0 ++ rest ∧ lendCs h (encL cs0) = some (encH os ++ h, cs1) ∧ WkL cs1 (encC s x) ∧ cs1.all AV.one = true) ∧ OsOk hg os
  | .pr a c, h, cs, rest, x, os, us, us', hl, hh, hu => by
    simp only [lendJ] at hl
    split at hl
    · rename_i va cs1 os1 us1 ha
      split at hl
      · rename_i vb cs2 os2 us2 hb
        simp only [Option.some.injEq, Prod.mk.injEq] at hl
        obtain ⟨rfl, rfl, rfl, rfl⟩ := hl
        obtain ⟨⟨p0, p1, rfl, hp, wp, np⟩, op⟩ := lendJ_one a ha hh (fun k hk => hu k (by simp at hk ⊢; exact .inl hk))
        obtain ⟨⟨q0, q1, rfl, hq, wq, nq⟩, oq⟩ := lendJ_one c hb (hh.put op fun k h => h) (fun k hk => hu k (by simp at hk ⊢; exact .inr hk))
        refine ⟨⟨p0 ++ q0, p1 ++ q1, by simp, ?_, wp.append wq, by rw [List.all_append, np, nq]; rfl⟩, fun k o hm => ?_⟩
        · rw [encL_append, encH_append, List.append_assoc]
          exact lendCs_append hp hq
        · rcases List.mem_append.1 hm with hm | hm
          · exact oq k o hm
          · exact op k o hm
      · cases hl
    · cases hl
  | .u, h, cs, rest, x, os, us, us', hl, hh, hu => by
    simp only [lendJ, Option.some.injEq, Prod.mk.injEq] at hl
    obtain ⟨-, rfl, rfl, rfl⟩ := hl
    exact ⟨⟨[], [], rfl, rfl, .nil, rfl⟩, fun k o hm => by cases hm⟩
  | .i k, h, [], rest, x, os, us, us', hl, hh, hu => by simp [lendJ] at hl
  | .b, h, [], rest, x, os, us, us', hl, hh, hu => by simp [lendJ] at hl
  | .sl r, h, [], rest, x, os, us, us', hl, hh, hu => by simp [lendJ] at hl
  | .i k, h, c :: cs, rest, x, os, us, us', hl, hh, hu => by
    simp only [lendJ] at hl
    split at hl
    · rename_i a os1 us1 ha
      simp only [Option.some.injEq, Prod.mk.injEq] at hl
      obtain ⟨rfl, rfl, rfl, rfl⟩ := hl
      obtain ⟨⟨c1, h1, n1, w1⟩, o1⟩ := lendS_cells ha hh hu ⟨rfl, fun _ => rfl⟩
      exact ⟨⟨[c], [c1], rfl, lendCs_one h1, w1, by simp [n1]⟩, o1⟩
    · cases hl
  | .b, h, c :: cs, rest, x, os, us, us', hl, hh, hu => by
    simp only [lendJ] at hl
    split at hl
    · rename_i a os1 us1 ha
      simp only [Option.some.injEq, Prod.mk.injEq] at hl
      obtain ⟨rfl, rfl, rfl, rfl⟩ := hl
      obtain ⟨⟨c1, h1, n1, w1⟩, o1⟩ := lendS_cells ha hh hu ⟨rfl, fun _ => rfl⟩
      exact ⟨⟨[c], [c1], rfl, lendCs_one h1, w1, by simp [n1]⟩, o1⟩
    · cases hl
  | .sl r, h, c :: cs, rest, x, os, us, us', hl, hh, hu => by
    simp only [lendJ] at hl
    split at hl
    · rename_i a os1 us1 ha
      simp only [Option.some.injEq, Prod.mk.injEq] at hl
      obtain ⟨rfl, rfl, rfl, rfl⟩ := hl
      obtain ⟨⟨c1, h1, n1, w1⟩, o1⟩ := lendS_cells ha hh hu ⟨rfl, fun _ => rfl⟩
      exact ⟨⟨[c], [c1], rfl, lendCs_one h1, w1, by simp [n1]⟩, o1⟩
    · cases hl
theorem cellsOf_one {c : AV} (h : c.one = true) : cellsOf c = some [c] := by
  cases c <;> first | (simp [AV.one] at h; done) | simp only [cellsOf, h, if_true]
/-- what is lent, as cells -/
theorem lendV_cells {hg : Nat → Option EOb} {h : Hp} {s : Sc} {c : EV} {x : s.Val} {os : EHp} {us us' : List Nat} (hl : lendV hg s c = some (x, os, us)) (hh : HC hg us' h) (hu : ∀ k, us.contains k = true → us'.contains k = true) :
    (∃ c1 xs, lendA h (enc c) = some (encH os ++ h, c1) ∧ cellsOf c1 = some xs ∧ WkL xs (encC s x) ∧ xs.all AV.one = true) ∧ OsOk hg os := by
  unfold lendV at hl
  split at hl
  · rename_i cs
    split at hl
    · split at hl
      · rename_i y os1 us1 hj
        simp only [Option.some.injEq, Prod.mk.injEq] at hl
        obtain ⟨rfl, rfl, rfl⟩ := hl
        obtain ⟨⟨cs0, cs1, h0, h1, h2, h4⟩, h3⟩ := lendJ_one _ hj hh hu
        simp only [List.append_nil] at h0
        subst h0
        exact ⟨⟨.ag cs1, cs1, by simp only [enc, lendA, h1], rfl, h2, h4⟩, h3⟩
      · cases hl
    · split at hl
      · rename_i y os1 us1 hj
        simp only [Option.some.injEq, Prod.mk.injEq] at hl
        obtain ⟨-, rfl, rfl⟩ := hl
        obtain ⟨⟨cs0, cs1, h0, h1, h2, h4⟩, h3⟩ := lendJ_one _ hj hh hu
        simp only [List.append_nil] at h0
        subst h0
        exact ⟨⟨.ag cs1, cs1, by simp only [enc, lendA, h1], rfl, h2, h4⟩, h3⟩
      · cases hl
    · cases hl
  · split at hl
    · cases hl
    · cases hl
    · obtain ⟨⟨c1, h1, n1, h2⟩, h3⟩ := lendS_cells hl hh hu ⟨rfl, fun _ => rfl⟩
      exact ⟨⟨c1, [c1], lendA_C h1, cellsOf_one n1, h2, by simp [n1]⟩, h3⟩
    · obtain ⟨⟨c1, h1, n1, h2⟩, h3⟩ := lendS_cells hl hh hu ⟨rfl, fun _ => rfl⟩
      exact ⟨⟨c1, [c1], lendA_C h1, cellsOf_one n1, h2, by simp [n1]⟩, h3⟩
    · obtain ⟨⟨c1, h1, n1, h2⟩, h3⟩ := lendS_cells hl hh hu ⟨rfl, fun _ => rfl⟩
      exact ⟨⟨c1, [c1], lendA_C h1, cellsOf_one n1, h2, by simp [n1]⟩, h3⟩

/-! ### slices that are read -/
structure Src where
  r : Sc
  xs : List r.Val
  tt : Bool
  os : EHp
  us : List Nat
def slSrc (hg : Nat → Option EOb) : EV → Option Src
  | .sc (.sl r) xs => some ⟨r, xs, false, [], []⟩
  | .ts r xs => some ⟨r, xs, true, [], []⟩
  | .ow j => match hg j with
    | some (.arr t r xs _) => some ⟨r, xs, false, [(j, some (.arr t r xs false))], [j]⟩
    | _ => none
  | _ => none
theorem slSrc_ok {hg : Nat → Option EOb} {h : Hp} {c : EV} {s : Src} {us' : List Nat} (hs : slSrc hg c = some s) (hh : HC hg us' h) (hu : ∀ k, s.us.contains k = true → us'.contains k = true) :
    lendC h (enc c) = some (encH s.os ++ h, .sl s.tt s.r.w (List.map (encC s.r) s.xs)) ∧ OsOk hg s.os ∧ c ≠ .un := by
  unfold slSrc at hs
  split at hs
  · simp only [Option.some.injEq] at hs; subst hs
    exact ⟨rfl, fun k o hm => (by cases hm), by intro e; cases e⟩
  · simp only [Option.some.injEq] at hs; subst hs
    exact ⟨rfl, fun k o hm => (by cases hm), by intro e; cases e⟩
  · rename_i j
    split at hs
    · rename_i t r xs wr hj
      simp only [Option.some.injEq] at hs; subst hs
      obtain ⟨wr', hw⟩ := hh j (hu j (by simp)) t r xs wr hj
      refine ⟨?_, ?_, by intro e; cases e⟩
      · simp only [enc, lendC, hw]; rfl
      · intro k o hm
        simp only [List.mem_singleton, Prod.mk.injEq] at hm
        obtain ⟨rfl, rfl⟩ := hm
        exact ⟨t, r, xs, wr, hj, rfl⟩
    · cases hs
  · cases hs
def subI {α : Type} (xs : List α) (l h : Int) : Option (List α) := if 0 ≤ l ∧ l ≤ h ∧ h ≤ xs.length then some ((xs.take h.toNat).drop l.toNat) else none
def subM {α : Type} (xs : List α) (l h m : Int) : Option (List α) := if 0 ≤ l ∧ l ≤ h ∧ h ≤ m ∧ m ≤ xs.length then some ((xs.take h.toNat).drop l.toNat) else none
def intE (ev : Nat → EV) (x : Operand) : Option Int := match evx ev x with
  | .sc (.i _) i => some i
  | _ => none
theorem intE_ok {ev : Nat → EV} {x : Operand} {i : Int} {st : St} (h : intE ev x = some i) (hs : Sk ev st) : ∃ k, st.ev x = .v (.int k i) := by
  unfold intE at h
  split at h
  · rename_i k i' hx
    cases h
    exact ⟨k, hs.is hx (by intro e; cases e)⟩
  · cases h
def sameOp : Operand → Operand → Bool
  | .tmp i, .tmp j => Nat.beq i j
  | .const (.int _ a), .const (.int _ b) => decide (a = b)
  | _, _ => false
def sameOO : Option Operand → Operand → Bool
  | some x, y => sameOp x y
  | none, _ => false
theorem sameOp_ok {x y : Operand} {ev : Nat → EV} (h : sameOp x y = true) {i j : Int} (hi : intE ev x = some i) (hj : intE ev y = some j) : i = j := by
  unfold sameOp at h
  split at h
  · have := Nat.eq_of_beq_eq_true h
    subst this
    rw [hi] at hj
    exact Option.some.inj hj
  · simp [intE, evx, cvE] at hi hj h
    rw [← hi, ← hj, h]
  · cases h
def loE (ev : Nat → EV) : Option Operand → Option Int
  | none => some 0
  | some x => intE ev x
def hiE (ev : Nat → EV) (n : Nat) : Option Operand → Option Int
  | none => some (n : Int)
  | some x => intE ev x
theorem loE_ok {ev : Nat → EV} {st : St} {lo : Option Operand} {l : Int} (h : loE ev lo = some l) (hs : Sk ev st) (h0 : 0 ≤ l) : bndA st 0 lo = some l.toNat := by
  cases lo with
  | none => simp only [loE, Option.some.injEq] at h; subst h; rfl
  | some x =>
    obtain ⟨k, hk⟩ := intE_ok (x := x) h hs
    simp only [bndA, hk, h0, if_true]
theorem hiE_ok {ev : Nat → EV} {st : St} {lo : Option Operand} {l : Int} {n : Nat} (h : hiE ev n lo = some l) (hs : Sk ev st) (h0 : 0 ≤ l) : bndA st n lo = some l.toNat := by
  cases lo with
  | none => simp only [hiE, Option.some.injEq] at h; subst h; simp [bndA]
  | some x =>
    obtain ⟨k, hk⟩ := intE_ok (x := x) h hs
    simp only [bndA, hk, h0, if_true]
def exSlice (T : TypeId → TInfo) (ev : Nat → EV) (hg : Nat → Option EOb) (t : TypeId) (x : Operand) (lo hi mx : Option Operand) {R : Type} (k : EV → EHp → List Nat → Option R) : Option R :=
  match slSrc hg (evx ev x) with
  | some s => match (T t).el with
    | some (_, sz, _, _) => cond (Nat.beq sz s.r.w) (match loE ev lo with
      | some l => match hiE ev s.xs.length hi with
        | some h => match mx with
          | none => obind (subI s.xs l h) fun ys => k (cond (s.tt && hi.isNone) (.ts s.r ys) (.sc (.sl s.r) ys)) s.os s.us
          | some m => cond (sameOO hi m) (match intE ev m with
            | some _ => obind (subI s.xs l h) fun ys => k (.ts s.r ys) s.os s.us
            | none => none) (match hi with
            | none => none
            | some _ => match intE ev m with
              | some mm => obind (subM s.xs l h mm) fun ys => cond (decide (h = mm)) (k (.ts s.r ys) s.os s.us) none
              | none => none)
        | none => none
      | none => none) none
    | none => none
  | none => none

section
variable {P : Program} {T : TypeId → TInfo} {ev : Nat → EV} {hg : Nat → Option EOb} {n d : Nat} {ty : TypeId} {pos : String} {af : Array Edge} {gd : Option (Nat × Bool)}
theorem SS.eq_mono {o : Oper} {st s1 s2 : St} (h : SS P o st fun s => s = s1) (hle : SLe P s1 s2) : SS P o st fun s => s = s2 := h.mono fun s hs => by subst hs; exact ⟨_, hle, rfl⟩
theorem exSlice_ok (hT : TOk P T) {R : Type} {k : EV → EHp → List Nat → Option R} {r : R} {t : TypeId} {x : Operand} {lo hi mx : Option Operand} (hd : d < n) (h : exSlice T ev hg t x lo hi mx k = some r) :
    ∃ c os us, FS P ⟨some d, .slice t x lo hi mx, ty, pos, af, gd⟩ n ev hg c os us .no ∧ k c os us = some r := by
  unfold exSlice at h
  split at h
  · rename_i s hsrc
    split at h
    · rename_i e sz by_ z he
      obtain ⟨hw0, h0⟩ := cond_none h
      clear h
      have hw := Nat.eq_of_beq_eq_true hw0
      clear hw0
      subst hw
      have h := h0
      clear h0
      split at h
      · rename_i l hl
        split at h
        · rename_i hh hhi
          have main : ∀ (m : Option Int) (ys : List s.r.Val) (c : EV), (0 ≤ l ∧ l ≤ hh ∧ hh ≤ s.xs.length) → ys = (s.xs.take hh.toNat).drop l.toNat → (∀ mm, m = some mm → hh ≤ mm ∧ mm ≤ s.xs.length) → (∀ st, Sk ev st → mxA st mx = some (m.map Int.toNat)) → (mx.isSome = true → hi.isSome = true) →
              Wk (pieceA s.tt (List.map (encC s.r) s.xs) s.r.w l.toNat hh.toNat (m.map Int.toNat)) (enc c) → FS P ⟨some d, .slice t x lo hi mx, ty, pos, af, gd⟩ n ev hg c s.os s.us .no := by
            intro m ys c hb hys hm hmx hmi hwk st hn hs hH hf
            obtain ⟨h1, h2, h3⟩ := slSrc_ok hsrc hH.hc fun _ h => h
            have hx := hs.is rfl h3
            have := SS.slice (P := P) (ty := ty) (pos := pos) (af := af) (gd := gd) (d := d) (h' := encH s.os ++ st.h) (tt := s.tt) (rows := List.map (encC s.r) s.xs) (l := l.toNat) (h := hh.toNat) (m := m.map Int.toNat) (K := fun s' => s' = ⟨st.n, (d, pieceA s.tt (List.map (encC s.r) s.xs) s.r.w l.toNat hh.toNat (m.map Int.toNat)) :: st.t, encH s.os ++ st.h⟩)
              (hT.el _ _ he) (by rw [hx]; exact h1) (loE_ok hl hs hb.1) (by rw [List.length_map]; exact hiE_ok hhi hs (by omega)) (hmx st hs) hmi (by omega) (by rw [List.length_map]; omega) (by
                intro y hy
                obtain ⟨mm, hmm, rfl⟩ := Option.map_eq_some_iff.1 hy
                have := hm mm hmm
                rw [List.length_map]; omega) (by omega) rfl
            exact this.eq_mono (SLe.wkT hwk)
          have rows : ∀ b : Bool, AV.sl b s.r.w (((List.map (encC s.r) s.xs).take hh.toNat).drop l.toNat) = .sl b s.r.w (List.map (encC s.r) ((s.xs.take hh.toNat).drop l.toNat)) := fun b => by
            rw [← List.map_take, ← List.map_drop]
          split at h
          · obtain ⟨ys, hys, hk⟩ := obind_some h
            unfold subI at hys
            split at hys
            · rename_i hb
              cases hys
              refine ⟨_, _, _, main none _ _ hb rfl (by simp) (fun st hs => rfl) (by simp) ?_, hk⟩
              unfold pieceA
              rw [rows]
              simp only [Option.map_none, pieceT, List.length_map]
              cases htt : s.tt with
              | false =>
                simp only [Bool.false_and]
                exact Wk.refl _
              | true =>
                cases hi with
                | none =>
                  simp only [hiE, Option.some.injEq] at hhi
                  subst hhi
                  simp only [Int.toNat_natCast, beq_self_eq_true, Bool.true_and, Option.isNone_none]
                  exact Wk.refl _
                | some y =>
                  simp only [Bool.true_and, Option.isNone_some]
                  cases hbb : hh.toNat == s.xs.length with
                  | true => exact Wk.tight
                  | false => exact Wk.refl _
            · cases hys
          · rename_i m
            rcases cond_some h with ⟨hsm, h⟩ | ⟨hsm, h⟩
            · split at h
              · rename_i mm hmm
                obtain ⟨ys, hys, hk⟩ := obind_some h
                unfold subI at hys
                split at hys
                · rename_i hb
                  cases hys
                  have hmh : mm = hh := by
                    cases hi with
                    | none => cases hsm
                    | some y => exact (sameOp_ok hsm hhi hmm).symm
                  subst hmh
                  refine ⟨_, _, _, main (some mm) _ _ hb rfl (by rintro y ⟨⟩; omega) (fun st hs => ?_) (fun _ => by cases hi with | none => cases hsm | some y => rfl) ?_, hk⟩
                  · obtain ⟨kk, hkk⟩ := intE_ok hmm hs
                    have h0 : 0 ≤ mm := by omega
                    simp [mxA, bndA, hkk, h0]
                  · unfold pieceA
                    rw [rows]
                    simp only [Option.map_some, pieceT, beq_self_eq_true]
                    exact Wk.refl _
                · cases hys
              · cases h
            · split at h
              · cases h
              · rename_i y
                split at h
                · rename_i mm hmm
                  obtain ⟨ys, hys, hk⟩ := obind_some h
                  unfold subM at hys
                  split at hys
                  · rename_i hb
                    cases hys
                    have mk := fun c hwk => main (some mm) _ c ⟨hb.1, hb.2.1, by omega⟩ rfl (by rintro y ⟨⟩; omega) (fun st hs => by
                      obtain ⟨kk, hkk⟩ := intE_ok hmm hs
                      have h0 : 0 ≤ mm := by omega
                      simp [mxA, bndA, hkk, h0]) (fun _ => rfl) hwk
                    rcases cond_some hk with ⟨hd, hk⟩ | ⟨hd, hk⟩
                    · refine ⟨_, _, _, mk (.ts s.r _) ?_, hk⟩
                      have hd : hh = mm := by simpa using hd
                      subst hd
                      unfold pieceA
                      rw [rows]
                      simp only [Option.map_some, pieceT, beq_self_eq_true]
                      exact Wk.refl _
                    · cases hk
                  · cases hys
                · cases h
        · cases h
      · cases h
    · cases h
  · cases h
end
end
end Go.Proofs.Ytggnolfcgaglfaa
