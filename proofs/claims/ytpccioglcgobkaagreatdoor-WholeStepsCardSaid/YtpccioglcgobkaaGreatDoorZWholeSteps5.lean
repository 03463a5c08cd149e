/- WholeSteps: the seat's texts as one (5 of 24; printed by wip/prune.py). -/
import Derived.Test.YtpccioglcgobkaaGreatDoorZWholeSteps4
set_option linter.unusedVariables false
set_option linter.unusedSimpArgs false
namespace Go.Proofs.YtpccioglcgobkaaGreatDoor
noncomputable section
open Go Go.RowKit MapKept
noncomputable section
variable {P : Program} {Dk : Deferred → Prop} {w0 : World} {T : TypeId → TInfo}
theorem Stp.non {ops : List Oper} {o : Oper} {t t' : Tr CV} {h h' : Tr Blk} {n n' : Nat} (hs : Stp P Dk w0 ops o t h n t' h' n') (hc : clsK o.op ≠ 2) : ∃ nb, n' = newN n nb ∧ (∀ k, h'.get k = newH h.get n nb k) ∧ (nb ≠ none → clsK o.op = 0) := by
 cases hs with
 | run c h2 n2 t2 hw hf hp =>
  unfold OpK at hf
  split at hf
  · rename_i h0
    obtain ⟨cf, nb, _, h2, h3, _⟩ := hf
    exact ⟨nb, h2, h3, fun _ => h0⟩
  · obtain ⟨rfl, rfl, _⟩ := hf
    exact ⟨none, rfl, fun _ => rfl, fun h => absurd rfl h⟩
  · rename_i h0 h1
    exfalso
    have : clsK o.op = 0 ∨ clsK o.op = 1 ∨ clsK o.op = 2 := by
     unfold clsK
     split <;> simp
    rcases this with h | h | h
    · exact h0 h
    · exact h1 h
    · exact hc h
 | skip t2 hw hp => exact ⟨none, rfl, fun _ => rfl, fun h => absurd rfl h⟩
theorem Stp.keep {ops : List Oper} {o : Oper} {t t' : Tr CV} {h h' : Tr Blk} {n n' : Nat} (hs : Stp P Dk w0 ops o t h n t' h' n') (hc : clsK o.op ≠ 2) {k : Nat} (hk : k < n) : h'.get k = h.get k := by
 obtain ⟨nb, _, h2, _⟩ := hs.non hc
 rw [h2]
 cases nb with
 | none => rfl
 | some b => exact if_neg (by omega)
theorem Stp.put {ops : List Oper} {o : Oper} {t t' : Tr CV} {h h' : Tr Blk} {n n' : Nat} (hs : Stp P Dk w0 ops o t h n t' h' n') : ∃ c, PutD o.dst c t t' := by
 cases hs with
 | run c h2 n2 t2 hw hf hp => exact ⟨c, hp⟩
 | skip t2 hw hp => exact ⟨_, hp⟩
section
variable {ops : List Oper} {ts : Nat → Tr CV} {hs : Nat → Tr Blk} {ns : Nat → Nat}
theorem TRC.le (hr : TRC P Dk w0 ops ts hs ns) {a b : Nat} (h : a ≤ b) (hb : b ≤ ops.length) : ns a ≤ ns b := by
 induction b with
 | zero => obtain rfl : a = 0 := by omega
           exact Nat.le_refl _
 | succ b ih =>
   by_cases e : a = b + 1
   · subst e; exact Nat.le_refl _
   · exact Nat.le_trans (ih (by omega) (by omega)) (hr.mono b (by omega))
theorem TRC.keepT (hr : TRC P Dk w0 ops ts hs ns) {x a b : Nat} (h : a ≤ b) (hb : b ≤ ops.length) (hn : ∀ i, a ≤ i → i < b → ∀ o, ops[i]? = some o → o.dst ≠ some x) : (ts b).get x = (ts a).get x := by
 induction b with
 | zero => obtain rfl : a = 0 := by omega
           rfl
 | succ b ih =>
   by_cases e : a = b + 1
   · subst e; rfl
   · have hlt : b < ops.length := by omega
     have ho : ops[b]? = some ops[b] := List.getElem?_eq_getElem hlt
     rw [← ih (by omega) (by omega) fun i h1 h2 => hn i h1 (by omega)]
     obtain ⟨c, hp⟩ := (hr.stp b _ ho).put
     have hne := hn b (by omega) (by omega) _ ho
     cases hd : (ops[b]).dst with
     | none => rw [hp.1 hd]
     | some d =>
       rw [(hp.2 d hd).2 x, if_neg]
       intro e; subst e; exact hne hd
theorem TRC.keepH (hr : TRC P Dk w0 ops ts hs ns) {k a b : Nat} (h : a ≤ b) (hb : b ≤ ops.length) (hn : ∀ i, a ≤ i → i < b → ¬ isM ops i) (hk : k < ns a) : (hs b).get k = (hs a).get k := by
 induction b with
 | zero => obtain rfl : a = 0 := by omega
           rfl
 | succ b ih =>
   by_cases e : a = b + 1
   · subst e; rfl
   · have hlt : b < ops.length := by omega
     have ho : ops[b]? = some ops[b] := List.getElem?_eq_getElem hlt
     rw [← ih (by omega) (by omega) fun i h1 h2 => hn i h1 (by omega)]
     exact (hr.stp b _ ho).keep (fun hc => hn b (by omega) (by omega) ⟨_, ho, hc⟩) (Nat.lt_of_lt_of_le hk (hr.le (by omega) (by omega)))
theorem TRC.keepZ (hr : TRC P Dk w0 ops ts hs ns) {a b : Nat} (h : a ≤ b) (hb : b ≤ ops.length) (hn : ∀ i, a ≤ i → i < b → ¬ isM ops i) (h0 : ∀ k, ns a ≤ k → (hs a).get k = none) : ∀ k, ns b ≤ k → (hs b).get k = none := by
 induction b with
 | zero => obtain rfl : a = 0 := by omega
           exact h0
 | succ b ih =>
   by_cases e : a = b + 1
   · subst e; exact h0
   · have hlt : b < ops.length := by omega
     have ho : ops[b]? = some ops[b] := List.getElem?_eq_getElem hlt
     have ih' := ih (by omega) (by omega) fun i h1 h2 => hn i h1 (by omega)
     obtain ⟨nb, e1, e2, _⟩ := (hr.stp b _ ho).non (fun hc => hn b (by omega) (by omega) ⟨_, ho, hc⟩)
     intro k hk
     rw [e2]
     rw [e1] at hk
     cases nb with
     | none => exact ih' k hk
     | some bb =>
       have : ns b + 1 ≤ k := hk
       show (if k = ns b then some bb else (hs b).get k) = none
       rw [if_neg (by omega)]
       exact ih' k (by omega)
def Gd (ops : List Oper) (ns : Nat → Nat) (S : Nat → Bool) (k x : Nat) : Prop := x ≤ ops.length ∧ k < ns x ∧ (∀ i, isM ops i → S i = true → i < x) ∧ ∀ i, isM ops i → i < x → S i = false → ns i ≤ k
structure DInv (P : Program) (Dk : Deferred → Prop) (w0 : World) (ops : List Oper) (ts : Nat → Tr CV) (hs : Nat → Tr Blk) (ns : Nat → Nat) (ρ0 : Nm) (a0 : Act) (ws : World) (S : Nat → Bool) (ρ : Nm) (C : KH) (a : Act) (w : World) : Prop where
 kp : KP P w0 ρ0 (hs 0).get (ns 0) ws ρ C (ns ops.length) w
 t1 : ∀ (i : Nat) o x c, ops[i]? = some o → o.dst = some x → S i = true → (ts ops.length).get x = some c → ∃ v, a.tmps[x]? = some v ∧ KR (Nm.cut ρ (ns (i + 1))) c v
 t0 : ∀ x c, (∀ (i : Nat) o, ops[i]? = some o → o.dst = some x → S i = false) → (ts 0).get x = some c → ∃ v, a.tmps[x]? = some v ∧ KR (Nm.cut ρ (ns 0)) c v
 hg : ∀ k x, (k < ns 0 ∨ ρ k ≠ none) → Gd ops ns S k x → C k = (hs x).get k
 hb : ∀ k x y, ρ k ≠ none → Gd ops ns S k x → (hs x).get k = some y → BlBel P (ns x) y
 toh : ∀ x, x ≤ ops.length → (∀ i, i < x → isM ops i → S i = true) → ∀ k, ns x ≤ k → (hs x).get k = none
 own : ∀ k, ρ k ≠ none → k < ns 0 ∨ ∃ i, i < ops.length ∧ S i = true ∧ ns i ≤ k ∧ k < ns (i + 1)
 df : Df Dk a0 a
variable {ρ0 ρ : Nm} {a0 a : Act} {ws w : World} {S : Nat → Bool} {C : KH}
theorem DInv.at (hr : TRC P Dk w0 ops ts hs ns) (hi : DInv P Dk w0 ops ts hs ns ρ0 a0 ws S ρ C a w) {x : Nat} (hx : x ≤ ops.length) (h1 : ∀ i, isM ops i → S i = true → i < x) (h2 : ∀ i, i < x → isM ops i → S i = true) :
 (∀ k, k < ns x → (k < ns 0 ∨ ρ k ≠ none) → (hs x).get k = C k) ∧ HR P w0 (Nm.cut ρ (ns x)) (hs x).get (ns x) w ∧ HR P w0 ρ (hs x).get (ns ops.length) w := by
 have hgd : ∀ k, k < ns x → Gd ops ns S k x := fun k hk => ⟨hx, hk, h1, fun i hm hl hs' => by rw [h2 i hl hm] at hs'; cases hs'⟩
 have hag : ∀ k, k < ns x → (k < ns 0 ∨ ρ k ≠ none) → (hs x).get k = C k := fun k hk hl => (hi.hg k x hl (hgd k hk)).symm
 have hz := hi.toh x hx h2
 refine ⟨hag, hi.kp.hr.sub (fun k hk hl => hag k hk (.inr hl)) (fun k y hk hl hy => hi.hb k x y hl (hgd k hk) hy) hz, hi.kp.hr.same (fun k y hl hy => ?_) hz (hr.le hx (Nat.le_refl _))⟩
 by_cases hk : k < ns x
 · rw [← hag k hk (.inr hl)]; exact hy
 · rw [hz k (by omega)] at hy; cases hy
section
variable {j : Nat} {o : Oper}
structure Rdy (ops : List Oper) (S : Nat → Bool) (j : Nat) : Prop where
 no : S j = false
 ah : ∀ i, aheadOf ops j i = true → i ≠ j → S i = true
 be : ∀ i, S i = true → aheadOf ops i j = false
 cl : ∀ i i', S i' = true → aheadOf ops i' i = true → S i = true
theorem Rdy.of (ho : ops[j]? = some o) (hS : Closed ops S) (hj : S j = false) (hr : ∀ e ∈ o.after, Region.binds .any e = true → S e.on = true) : Rdy ops S j := by
 have hS2 : Closed ops (fun i => S i || i == j) := fun i oi hoi hsi e he hb => by
  by_cases hij : i = j
  · subst hij
    obtain rfl := Option.some.inj (ho.symm.trans hoi)
    simp [hr e he hb]
  · have : S i = true := by simpa [hij] using hsi
    simp [hS i oi hoi this e he hb]
 refine ⟨hj, fun i hb hij => ?_, fun i hsi => ?_, fun i i' h1 h2 => aheadOf_closed hS i' i h2 h1⟩
 · have := aheadOf_closed hS2 j i hb (by simp)
   simpa [hij] using this
 · cases h : aheadOf ops i j with
   | false => rfl
   | true => rw [aheadOf_closed hS i j h hsi] at hj; cases hj
theorem DInv.free (hr : TRC P Dk w0 ops ts hs ns) (hi : DInv P Dk w0 ops ts hs ns ρ0 a0 ws S ρ C a w) (hd : Rdy ops S j) (hjl : j < ops.length) : ∀ k, ns j ≤ k → k < ns (j + 1) → ρ k = none := fun k h1 h2 => by
 cases hk : ρ k with
 | none => rfl
 | some p =>
  exfalso
  rcases hi.own k (by rw [hk]; simp) with h | ⟨i, hil, hsi, h3, h4⟩
  · have := hr.le (Nat.zero_le j) (by omega)
    omega
  · rcases Nat.lt_trichotomy i j with e | e | e
    · have := hr.le (a := i + 1) (b := j) (by omega) (by omega)
      omega
    · subst e; rw [hd.no] at hsi; cases hsi
    · have := hr.le (a := j + 1) (b := i) (by omega) (by omega)
      omega
theorem DInv.sees (hx : TX ops) (hr : TRC P Dk w0 ops ts hs ns) (hi : DInv P Dk w0 ops ts hs ns ρ0 a0 ws S ρ C a w) (hd : Rdy ops S j) (ho : ops[j]? = some o) : TRk (Nm.cut ρ (ns j)) ((ts j).res (relT ops o)) a := by
 have hjl := (List.getElem?_eq_some_iff.1 ho).1
 intro x c hc
 rw [Tr.res_get] at hc
 have hrel : relT ops o x = true := by
  cases h : relT ops o x with
  | true => rfl
  | false => rw [h] at hc; cases hc
 rw [if_pos hrel] at hc
 -- who writes it
 have hw : ∀ (i : Nat) p, ops[i]? = some p → p.dst = some x → i = j ∨ cmpB ops i j = true := fun i p hp hpd => by
  unfold relT at hrel
  rw [Bool.or_eq_true] at hrel
  rcases hrel with h | h
  · exact hx.see i j p o x hp ho (List.contains_iff_mem.1 h) hpd
  · split at h
    · rename_i g hg
      obtain ⟨p', h1, h2⟩ := Option.bind_eq_some_iff.1 (by simpa using h : dstOf ops g.1 = some x)
      have hag := hx.gd j o g ho hg
      obtain rfl : i = g.1 := dstsB_get hx.inj i g.1 p p' x hp h1 hpd h2
      exact .inr (by simp [cmpB, hag.1])
    · cases h
 by_cases hex : ∃ (i : Nat) (p : Oper), ops[i]? = some p ∧ p.dst = some x
 · obtain ⟨i, p, hp, hpd⟩ := hex
   have hil := (List.getElem?_eq_some_iff.1 hp).1
   have uniq : ∀ i' p', ops[i']? = some p' → p'.dst = some x → i' = i := fun i' p' h1 h2 => dstsB_get hx.inj i' i p' p x h1 hp h2 hpd
   -- it isn't done
   have un : S i = false → j ≤ i → ∃ u, a.tmps[x]? = some u ∧ KR (Nm.cut ρ (ns j)) c u := fun hs' hle => by
    rw [hr.keepT (Nat.zero_le j) (by omega) fun i' h1 h2 p' h3 h4 => by have := uniq i' p' h3 h4; omega] at hc
    obtain ⟨v, h1, h2⟩ := hi.t0 x c (fun i' p' h3 h4 => by rw [uniq i' p' h3 h4]; exact hs') hc
    exact ⟨v, h1, h2.mono (Nm.cut_le ρ (hr.le (Nat.zero_le j) (by omega)))⟩
   rcases hw i p hp hpd with e | e
   · subst e; exact un hd.no (Nat.le_refl _)
   · simp only [cmpB, Bool.or_eq_true] at e
     by_cases hij : i = j
     · subst hij; exact un hd.no (Nat.le_refl _)
     rcases e with e | e
     · have hs' := hd.ah i e hij
       have hle := hx.le e
       have e1 : (ts ops.length).get x = some c := by
        rw [hr.keepT (a := j) (by omega) (Nat.le_refl _) fun i' h1 h2 p' h3 h4 => by have := uniq i' p' h3 h4; omega]
        exact hc
       obtain ⟨v, h1, h2⟩ := hi.t1 i p x c hp hpd hs' e1
       exact ⟨v, h1, h2.mono (Nm.cut_le ρ (hr.le (by omega) (by omega)))⟩
     · have hs' : S i = false := by
        cases h : S i with
        | false => rfl
        | true => rw [hd.be i h] at e; cases e
       exact un hs' (hx.le e)
 · rw [hr.keepT (Nat.zero_le j) (by omega) fun i' h1 h2 p' h3 h4 => hex ⟨i', p', h3, h4⟩] at hc
   obtain ⟨v, h1, h2⟩ := hi.t0 x c (fun i' p' h3 h4 => absurd ⟨i', p', h3, h4⟩ hex) hc
   exact ⟨v, h1, h2.mono (Nm.cut_le ρ (hr.le (Nat.zero_le j) (by omega)))⟩
theorem DInv.next (hx : TX ops) (hr : TRC P Dk w0 ops ts hs ns) (hi : DInv P Dk w0 ops ts hs ns ρ0 a0 ws S ρ C a w) (hd : Rdy ops S j) (ho : ops[j]? = some o) {c : CV} (hp : PutD o.dst c (ts j) (ts (j + 1))) {ρ2 : Nm} {C2 : KH} {w1 : World} {v : Value} {D : List Deferred}
 (hle : NLe ρ ρ2) (hv : KR (Nm.cut ρ2 (ns (j + 1))) c v) (hD : ∀ d ∈ D, Dk d)
 (kp : KP P w0 ρ0 (hs 0).get (ns 0) ws ρ2 C2 (ns ops.length) w1)
 (hg : ∀ k x, (k < ns 0 ∨ ρ2 k ≠ none) → Gd ops ns (fun i => S i || i == j) k x → C2 k = (hs x).get k)
 (hb : ∀ k x y, ρ2 k ≠ none → Gd ops ns (fun i => S i || i == j) k x → (hs x).get k = some y → BlBel P (ns x) y)
 (toh : ∀ x, x ≤ ops.length → (∀ i, i < x → isM ops i → (S i || i == j) = true) → ∀ k, ns x ≤ k → (hs x).get k = none)
 (own : ∀ k, ρ2 k ≠ none → k < ns 0 ∨ ∃ i, i < ops.length ∧ (S i || i == j) = true ∧ ns i ≤ k ∧ k < ns (i + 1)) :
 DInv P Dk w0 ops ts hs ns ρ0 a0 ws (fun i => S i || i == j) ρ2 C2 (({ a with defers := D ++ a.defers } : Act).put o.dst v) w1 := by
 have hjl := (List.getElem?_eq_some_iff.1 ho).1
 have other : ∀ {x}, o.dst ≠ some x → (({ a with defers := D ++ a.defers } : Act).put o.dst v).tmps[x]? = a.tmps[x]? := fun {x} hne => by
  cases hd' : o.dst with
  | none => rfl
  | some d =>
   rw [hd'] at hne
   simp only [Act.put]
   rw [Array.getElem?_setIfInBounds_ne (fun e => hne (by rw [e]))]
 refine ⟨kp, fun i p x c' hpi hpd hs' hc' => ?_, fun x c' hno hc' => ?_, hg, hb, toh, own, hi.df.trans ⟨D, hD, by rw [put_defers]⟩⟩
 · by_cases hij : i = j
   · subst hij
     obtain rfl := Option.some.inj (ho.symm.trans hpi)
     obtain ⟨⟨c1, hc1⟩, hat⟩ := hp.2 x hpd
     rw [hr.keepT (a := i + 1) (by omega) (Nat.le_refl _) fun i' h1 h2 p' h3 h4 => by have := dstsB_get hx.inj i' i p' o x h3 ho h4 hpd; omega, hat x, if_pos rfl] at hc'
     cases hc'
     rw [hr.keepT (a := 0) (Nat.zero_le _) (by omega) fun i' h1 h2 p' h3 h4 => by have := dstsB_get hx.inj i' i p' o x h3 ho h4 hpd; omega] at hc1
     obtain ⟨u, hu, _⟩ := hi.t0 x c1 (fun i' p' h3 h4 => by rw [dstsB_get hx.inj i' i p' o x h3 ho h4 hpd]; exact hd.no) hc1
     have hlt := (Array.getElem?_eq_some_iff.1 hu).1
     exact ⟨v, by rw [hpd]; simp [Act.put, hlt], hv⟩
   · have hs1 : S i = true := by simpa [hij] using hs'
     rw [other fun e => hij (dstsB_get hx.inj i j p o x hpi ho hpd e)]
     obtain ⟨u, h1, h2⟩ := hi.t1 i p x c' hpi hpd hs1 hc'
     exact ⟨u, h1, h2.mono (hle.cut _)⟩
 · have hne : o.dst ≠ some x := fun e => by have := hno j o ho e; simp at this
   rw [other hne]
   obtain ⟨u, h1, h2⟩ := hi.t0 x c' (fun i p h3 h4 => by have := hno i p h3 h4; simp at this; exact this.1) hc'
   exact ⟨u, h1, h2.mono (hle.cut _)⟩
end
end
end
end
noncomputable section
open Go Go.RowKit MapKept
noncomputable section
variable {P : Program} {Dk : Deferred → Prop} {w0 : World} {T : TypeId → TInfo}
section
variable {ops : List Oper} {ts : Nat → Tr CV} {hs : Nat → Tr Blk} {ns : Nat → Nat} {ρ0 ρ ρ1 : Nm} {a0 a : Act} {ws w w1 : World} {S : Nat → Bool} {C : KH} {j : Nat} {o : Oper} {c : CV} {v : Value} {D : List Deferred}
theorem DInv.stepZ (hx : TX ops) (hr : TRC P Dk w0 ops ts hs ns) (hi : DInv P Dk w0 ops ts hs ns ρ0 a0 ws S ρ C a w) (hd : Rdy ops S j) (ho : ops[j]? = some o) (hp : PutD o.dst c (ts j) (ts (j + 1))) (hcl : clsK o.op ≠ 2) {nb : Option Blk} (hn : ns (j + 1) = newN (ns j) nb)
 (hh : ∀ k, (hs (j + 1)).get k = newH (hs j).get (ns j) nb k) (hnb : nb ≠ none → clsK o.op = 0) (B : KP P w0 (Nm.cut ρ (ns j)) (fun _ => none) (ns j) w ρ1 (newH (fun _ => none) (ns j) nb) (newN (ns j) nb) w1)
 (hv : KR ρ1 c v) (hD : ∀ d ∈ D, Dk d) : ∃ ρ2 C2, DInv P Dk w0 ops ts hs ns ρ0 a0 ws (fun i => S i || i == j) ρ2 C2 (({ a with defers := D ++ a.defers } : Act).put o.dst v) w1 := by
 have hjl := (List.getElem?_eq_some_iff.1 ho).1
 have hfree := hi.free hr hd hjl
 have hjn := hr.mono j hjl
 have h0j := hr.le (Nat.zero_le j) (by omega)
 have hjL := hr.le (a := j + 1) (by omega) (Nat.le_refl _)
 rw [← hn] at B
 obtain ⟨kp, l1, l2⟩ := hi.kp.add B h0j hjL hfree
 have hM : ∀ {i}, isM ops i → i ≠ j := fun {i} hm e => by
  subst e
  obtain ⟨o', h1, h2⟩ := hm
  obtain rfl := Option.some.inj (ho.symm.trans h1)
  exact hcl h2
 have same : ∀ k, ¬ (ns j ≤ k ∧ k < ns (j + 1)) → mixN (ns (j + 1)) ρ1 ρ k = ρ k := fun k hk => by
  by_cases h : k < ns (j + 1)
  · rw [mixN_lt h, B.ro k (by omega), Nm.cut_lt (by omega)]
  · rw [mixN_ge (by omega)]
 have gd : ∀ {k x}, Gd ops ns (fun i => S i || i == j) k x → Gd ops ns S k x := fun {k x} ⟨g1, g2, g3, g4⟩ => ⟨g1, g2, fun i hm hs' => g3 i hm (by simp [hs']), fun i hm hl hs' => g4 i hm hl (by simp [hs', hM hm])⟩
 -- the block that is made
 have mk : ∀ {k x}, ns j ≤ k → k < ns (j + 1) → Gd ops ns (fun i => S i || i == j) k x → j + 1 ≤ x ∧ (hs x).get k = newH (fun _ => none) (ns j) nb k := fun {k x} h1 h2 ⟨g1, g2, g3, g4⟩ => by
  have hxj : j + 1 ≤ x := by
   by_cases h : x ≤ j
   · have := hr.le h (by omega); omega
   · omega
  cases hnbe : nb with
  | none => rw [hnbe] at hn; simp only [newN] at hn; omega
  | some b =>
   have hk : k = ns j := by rw [hnbe] at hn; simp only [newN] at hn; omega
   have h0 := hnb (by rw [hnbe]; simp)
   refine ⟨hxj, ?_⟩
   have base : (hs (j + 1)).get k = some b := by rw [hh, hnbe]; exact if_pos hk
   have key : ∀ y, j + 1 ≤ y → y ≤ x → (hs y).get k = some b := by
    intro y hy hyx
    induction y with
    | zero => omega
    | succ y ih =>
     by_cases e : y = j
     · subst e; exact base
     · have ih' := ih (by omega) (by omega)
       have hlt : y < ops.length := by omega
       have hoy : ops[y]? = some ops[y] := List.getElem?_eq_getElem hlt
       have hky : k < ns y := by have := hr.le (a := j + 1) (b := y) (by omega) (by omega); omega
       by_cases hc2 : clsK (ops[y]).op = 2
       · have hm : isM ops y := ⟨_, hoy, hc2⟩
         have hsy : S y = true := by
          cases h : S y with
          | true => rfl
          | false => have := g4 y hm (by omega) (by simp [h, e]); omega
         rcases hr.made j y o _ ho hoy h0 hc2 (by omega) (hd.be y hsy) with h | h
         · omega
         · rw [← hk] at h
           rw [← h]; exact base
       · rw [(hr.stp y _ hoy).keep hc2 hky]; exact ih'
   rw [key x hxj (Nat.le_refl _)]
   exact (if_pos hk).symm
 refine ⟨_, _, hi.next hx hr hd ho hp l2 (hv.mono fun k p hk => ?_) hD kp (fun k x hl hgd => ?_) (fun k x y hl hgd hy => ?_) (fun x hxl hall => hi.toh x hxl fun i h1 hm => ?_) (fun k hk => ?_)⟩
 · have := B.hr.lt hk
   rw [Nm.cut_lt this]
   exact l1 k p hk
 · by_cases h : ns j ≤ k ∧ k < ns (j + 1)
   · rw [if_pos h]
     exact (mk h.1 h.2 hgd).2.symm
   · rw [if_neg h]
     rw [same k h] at hl
     exact hi.hg k x hl (gd hgd)
 · by_cases h : ns j ≤ k ∧ k < ns (j + 1)
   · obtain ⟨e1, e2⟩ := mk h.1 h.2 hgd
     rw [mixN_lt h.2] at hl
     rw [e2] at hy
     obtain ⟨q, hq⟩ := Option.ne_none_iff_exists'.1 hl
     exact ((B.hr.ob k y q.1 q.2 hy hq).bel B.hr.top).mono (hr.le e1 hgd.1)
   · rw [same k h] at hl
     exact hi.hb k x y hl (gd hgd) hy
 · have := hall i h1 hm
   simpa [hM hm] using this
 · by_cases h : ns j ≤ k ∧ k < ns (j + 1)
   · exact .inr ⟨j, hjl, by simp, h.1, h.2⟩
   · rw [same k h] at hk
     rcases hi.own k hk with h1 | ⟨i, e1, e2, e3⟩
     · exact .inl h1
     · exact .inr ⟨i, e1, by simp [e2], e3⟩
theorem Rdy.row (hx : TX ops) (hd : Rdy ops S j) (hm : isM ops j) : (∀ i, isM ops i → S i = true → i < j) ∧ ∀ i, i < j → isM ops i → S i = true := by
 obtain ⟨o, ho, hc⟩ := hm
 have key : ∀ i, isM ops i → i = j ∨ cmpB ops i j = true := fun i ⟨p, h1, h2⟩ => hx.row i j p o h1 ho h2 hc
 refine ⟨fun i hm hs' => ?_, fun i hl hm => ?_⟩
 · rcases key i hm with e | e
   · subst e; rw [hd.no] at hs'; cases hs'
   · simp only [cmpB, Bool.or_eq_true] at e
     rcases e with e | e
     · by_cases hij : i = j
       · subst hij; rw [hd.no] at hs'; cases hs'
       · have := hx.le e; omega
     · rw [hd.be i hs'] at e; cases e
 · rcases key i hm with e | e
   · omega
   · simp only [cmpB, Bool.or_eq_true] at e
     rcases e with e | e
     · exact hd.ah i e (by omega)
     · have := hx.le e; omega
theorem DInv.stepM (hx : TX ops) (hr : TRC P Dk w0 ops ts hs ns) (hi : DInv P Dk w0 ops ts hs ns ρ0 a0 ws S ρ C a w) (hd : Rdy ops S j) (ho : ops[j]? = some o) (hp : PutD o.dst c (ts j) (ts (j + 1))) (hcl : clsK o.op = 2)
 (B : KP P w0 (Nm.cut ρ (ns j)) (hs j).get (ns j) w ρ1 (hs (j + 1)).get (ns (j + 1)) w1)
 (hv : KR ρ1 c v) (hD : ∀ d ∈ D, Dk d) : ∃ ρ2 C2, DInv P Dk w0 ops ts hs ns ρ0 a0 ws (fun i => S i || i == j) ρ2 C2 (({ a with defers := D ++ a.defers } : Act).put o.dst v) w1 := by
 have hjl := (List.getElem?_eq_some_iff.1 ho).1
 have hmj : isM ops j := ⟨o, ho, hcl⟩
 have hfree := hi.free hr hd hjl
 have hjn := hr.mono j hjl
 have h0j := hr.le (Nat.zero_le j) (by omega)
 have hjL := hr.le (a := j + 1) (by omega) (Nat.le_refl _)
 obtain ⟨r1, r2⟩ := hd.row hx hmj
 obtain ⟨hag, _, _⟩ := hi.at hr (by omega : j ≤ ops.length) r1 r2
 obtain ⟨kp, l1, l2⟩ := hi.kp.merge B h0j hjL hag hfree
 -- nothing turns blocks from j on to where a block is now
 have quiet : ∀ {k x}, k < ns (j + 1) → Gd ops ns (fun i => S i || i == j) k x → j + 1 ≤ x ∧ (hs x).get k = (hs (j + 1)).get k := fun {k x} hk ⟨g1, g2, g3, g4⟩ => by
  have hxj : j < x := g3 j hmj (by simp)
  refine ⟨hxj, hr.keepH hxj g1 (fun i h1 h2 hm => ?_) hk⟩
  have hs' : S i = false := by
   cases h : S i with
   | false => rfl
   | true => have := r1 i hm h; omega
  have := g4 i hm h2 (by simp [hs']; omega)
  have := hr.le (a := j + 1) (b := i) h1 (by omega)
  omega
 have old : ∀ {k x}, ns (j + 1) ≤ k → Gd ops ns (fun i => S i || i == j) k x → Gd ops ns S k x := fun {k x} hk ⟨g1, g2, g3, g4⟩ => ⟨g1, g2, fun i hm hs' => g3 i hm (by simp [hs']), fun i hm hl hs' => by
  by_cases e : i = j
  · subst e; omega
  · exact g4 i hm hl (by simp [hs', e])⟩
 refine ⟨_, _, hi.next hx hr hd ho hp l2 (hv.mono fun k p hk => ?_) hD kp (fun k x hl hgd => ?_) (fun k x y hl hgd hy => ?_) (fun x hxl hall => ?_) (fun k hk => ?_)⟩
 · have := B.hr.lt hk
   rw [Nm.cut_lt this]
   exact l1 k p hk
 · by_cases h : k < ns (j + 1)
   · rw [mixN_lt h]
     exact (quiet h hgd).2.symm
   · rw [mixN_ge (by omega)] at hl ⊢
     exact hi.hg k x hl (old (by omega) hgd)
 · by_cases h : k < ns (j + 1)
   · obtain ⟨e1, e2⟩ := quiet h hgd
     rw [mixN_lt h] at hl
     rw [e2] at hy
     obtain ⟨q, hq⟩ := Option.ne_none_iff_exists'.1 hl
     exact ((B.hr.ob k y q.1 q.2 hy hq).bel B.hr.top).mono (hr.le e1 hgd.1)
   · rw [mixN_ge (by omega)] at hl
     exact hi.hb k x y hl (old (by omega) hgd) hy
 · by_cases h : x ≤ j
   · exact hi.toh x hxl fun i h1 hm => by
      have := hall i h1 hm
      have e : i ≠ j := by omega
      simpa [e] using this
   · refine hr.keepZ (a := j + 1) (by omega) hxl (fun i h1 h2 hm => ?_) B.hr.toh
     have := hall i h2 hm
     have e : i ≠ j := by omega
     have : S i = true := by simpa [e] using this
     have := r1 i hm this
     omega
 · by_cases h : k < ns (j + 1)
   · by_cases h' : ns j ≤ k
     · exact .inr ⟨j, hjl, by simp, h', h⟩
     · rw [mixN_lt h, B.ro k (by omega), Nm.cut_lt (by omega)] at hk
       rcases hi.own k hk with h1 | ⟨i, e1, e2, e3⟩
       · exact .inl h1
       · exact .inr ⟨i, e1, by simp [e2], e3⟩
   · rw [mixN_ge (by omega)] at hk
     rcases hi.own k hk with h1 | ⟨i, e1, e2, e3⟩
     · exact .inl h1
     · exact .inr ⟨i, e1, by simp [e2], e3⟩
theorem DInv.reads (hx : TX ops) (hr : TRC P Dk w0 ops ts hs ns) (hi : DInv P Dk w0 ops ts hs ns ρ0 a0 ws S ρ C a w) (hd : Rdy ops S j) (ho : ops[j]? = some o) (hp : PutD o.dst c (ts j) (ts (j + 1))) (hcl : clsK o.op = 1) (hw : Wants ops o.guard ((ts j).res (relT ops o)) true)
 (hf : PK P w0 o ((ts j).res (relT ops o)) (hs j) c) : ∃ v, (execOp a.eval o).run P w = .ok (.value v) w ∧ KR (Nm.cut ρ (ns j)) c v := by
 have hjl := (List.getElem?_eq_some_iff.1 ho).1
 have hsee := hi.sees hx hr hd ho
 by_cases hA : (∀ i, isM ops i → S i = true → i < j) ∧ ∀ i, i < j → isM ops i → S i = true
 · exact hf _ a w _ hsee (hi.at hr (by omega : j ≤ ops.length) hA.1 hA.2).2.1
 -- it is read at another time
 have hnm : ∀ {i}, isM ops i → i ≠ j := fun {i} hm e => by
  subst e
  obtain ⟨o', h1, h2⟩ := hm
  obtain rfl := Option.some.inj (ho.symm.trans h1)
  omega
 have pre : ∀ i i', isM ops i → isM ops i' → i < i' → S i' = true → S i = true := fun i i' ⟨p, h1, h2⟩ ⟨p', h1', h2'⟩ hl hs' => by
  rcases hx.row i i' p p' h1 h1' h2 h2' with e | e
  · omega
  · simp only [cmpB, Bool.or_eq_true] at e
    rcases e with e | e
    · exact hd.cl i i' hs' e
    · have := hx.le e; omega
 obtain ⟨m, x, hm, hxx, hcmp, e1, e2⟩ : ∃ m x, isM ops m ∧ (x = m ∨ x = m + 1) ∧ cmpB ops j m = false ∧ (∀ i, isM ops i → S i = true → i < x) ∧ ∀ i, i < x → isM ops i → S i = true := by
  by_cases hB : ∃ i, i < ops.length ∧ (isM ops i ∧ S i = true ∧ j < i)
  · obtain ⟨m, hml, ⟨hmm, hsm, hjm⟩, hlast⟩ := last_of (fun i => isM ops i ∧ S i = true ∧ j < i) ops.length hB
    refine ⟨m, m + 1, hmm, .inr rfl, ?_, fun i hmi hsi => ?_, fun i hl hmi => ?_⟩
    · cases h : cmpB ops j m with
      | false => rfl
      | true =>
       simp only [cmpB, Bool.or_eq_true] at h
       rcases h with h | h
       · rw [hd.be m hsm] at h; cases h
       · have := hx.le h; omega
    · by_cases h : i < m + 1
      · exact h
      · exact absurd ⟨hmi, hsi, by omega⟩ (hlast i (by omega) (by obtain ⟨p, h1, _⟩ := hmi; exact (List.getElem?_eq_some_iff.1 h1).1))
    · by_cases h : i = m
      · subst h; exact hsm
      · exact pre i m hmi hmm (by omega) hsm
  · have a1 : ∀ i, isM ops i → S i = true → i < j := fun i hmi hsi => by
     by_cases h : i < j
     · exact h
     · exact absurd ⟨i, by obtain ⟨p, h1, _⟩ := hmi; exact (List.getElem?_eq_some_iff.1 h1).1, hmi, hsi, by have := hnm hmi; omega⟩ hB
    obtain ⟨i0, h0⟩ : ∃ i, i < j ∧ isM ops i ∧ S i = false := by
     apply Classical.byContradiction
     intro hno
     refine hA ⟨a1, fun i hl hmi => ?_⟩
     cases h : S i with
     | true => rfl
     | false => exact absurd ⟨i, hl, hmi, h⟩ hno
    have least : ∀ i, (i < j ∧ isM ops i ∧ S i = false) → ∃ m, (m < j ∧ isM ops m ∧ S m = false) ∧ ∀ i', i' < m → ¬ (i' < j ∧ isM ops i' ∧ S i' = false) := by
     intro i
     induction i using Nat.strongRecOn with
     | _ i ih =>
      intro h
      by_cases hh : ∃ i', i' < i ∧ (i' < j ∧ isM ops i' ∧ S i' = false)
      · obtain ⟨i', h1, h2⟩ := hh
        exact ih i' h1 h2
      · exact ⟨i, h, fun i' h1 h2 => hh ⟨i', h1, h2⟩⟩
    obtain ⟨m, ⟨hmj, hmm, hsm⟩, hlm⟩ := least i0 h0
    refine ⟨m, m, hmm, .inl rfl, ?_, fun i hmi hsi => ?_, fun i hl hmi => ?_⟩
    · cases h : cmpB ops j m with
      | false => rfl
      | true =>
       simp only [cmpB, Bool.or_eq_true] at h
       rcases h with h | h
       · have := hx.le h; omega
       · have := hd.ah m h (by omega); rw [hsm] at this; cases this
    · rcases Nat.lt_trichotomy i m with h | h | h
      · exact h
      · subst h; rw [hsm] at hsi; cases hsi
      · have := pre m i hmm hmi h hsi
        rw [hsm] at this; cases this
    · cases h : S i with
      | true => rfl
      | false => exact absurd ⟨by omega, hmi, h⟩ (hlm i hl)
 obtain ⟨p, hpm, hpc⟩ := hm
 have hml := (List.getElem?_eq_some_iff.1 hpm).1
 have hsame : SameF P w0 ops o (ts ops.length) (hs x) := by
  have := hr.rd j m o p ho hpm hcl hpc hcmp
  rcases hxx with e | e
  · subst e; exact this.1
  · subst e; exact this.2
 have hHR := (hi.at hr (by omega : x ≤ ops.length) e1 e2).2.2
 -- the temporaries are aS at the end
 have htr : TRk ρ ((ts ops.length).res (relT ops o)) a := by
  intro y c' hc'
  rw [Tr.res_get] at hc'
  have hrel : relT ops o y = true := by
   cases h : relT ops o y with
   | true => rfl
   | false => rw [h] at hc'; cases hc'
  rw [if_pos hrel] at hc'
  have hwr : ∀ (i : Nat) q, ops[i]? = some q → q.dst = some y → i < j := fun i q hq hqd => by
   have h2 := hrel
   unfold relT at h2
   rw [Bool.or_eq_true] at h2
   rcases h2 with h | h
   · have h3 := hx.rd j m o p ho hpm hcl hpc hcmp i q y hq (List.contains_iff_mem.1 h) hqd
     have := hx.le h3.1
     omega
   · split at h
     · rename_i g hg
       obtain ⟨p', h1, h2⟩ := Option.bind_eq_some_iff.1 (by simpa using h : dstOf ops g.1 = some y)
       have h3 := hx.gd j o g ho hg
       obtain rfl : i = g.1 := dstsB_get hx.inj i g.1 q p' y hq h1 hqd h2
       have := hx.le h3.1
       omega
     · cases h
  rw [hr.keepT (a := j) (by omega) (Nat.le_refl _) fun i h1 h2 q h3 h4 => by have := hwr i q h3 h4; omega] at hc'
  obtain ⟨u, h1, h2⟩ := hsee y c' (by rw [Tr.res_get, if_pos hrel]; exact hc')
  exact ⟨u, h1, h2.mono (Nm.cut_sub ρ _)⟩
 rcases hsame with hno | ⟨d, c0, hdd, hc0, hpk⟩
 · have h1 := hw _ a hsee o rfl
   have h2 := hno _ a htr o rfl
   rw [h1] at h2; cases h2
 · obtain ⟨v, h1, h2⟩ := hpk ρ a w _ htr hHR
   have hcc : c0 = c := by
    have h3 := hc0
    rw [hr.keepT (a := j + 1) (by omega) (Nat.le_refl _) fun i' h1 h2 p' h3 h4 => by have := dstsB_get hx.inj i' j p' o d h3 ho h4 hdd; omega, (hp.2 d hdd).2 d, if_pos rfl] at h3
    cases h3; rfl
   subst hcc
   exact ⟨v, h1, hr.bl j m o p d c0 ho hpm hcl hpc hcmp hdd hc0 ρ v h2⟩
end
end
end
noncomputable section
open Go Go.RowKit MapKept
noncomputable section
variable {P : Program} {Dk : Deferred → Prop} {w0 : World} {T : TypeId → TInfo}
theorem Stp.inv {ops : List Oper} {o : Oper} {t t' : Tr CV} {h h' : Tr Blk} {n n' : Nat} (hs : Stp P Dk w0 ops o t h n t' h' n') :
 (∃ c, Wants ops o.guard (t.res (relT ops o)) true ∧ OpK P Dk w0 o (t.res (relT ops o)) h n c h' n' ∧ PutD o.dst c t t') ∨ (h' = h ∧ n' = n ∧ Wants ops o.guard (t.res (relT ops o)) false ∧ PutD o.dst (.v undef) t t') := by
 cases hs with
 | run c h2 n2 t2 hw hf hp => exact .inl ⟨c, hw, hf, hp⟩
 | skip t2 hw hp => exact .inr ⟨rfl, rfl, hw, hp⟩
section
variable {ops : List Oper} {ts : Nat → Tr CV} {hs : Nat → Tr Blk} {ns : Nat → Nat} {ρ0 ρ : Nm} {a0 a : Act} {ws w : World} {S : Nat → Bool} {C : KH} {j : Nat} {o : Oper}
theorem DInv.step (hx : TX ops) (hr : TRC P Dk w0 ops ts hs ns) (hi : DInv P Dk w0 ops ts hs ns ρ0 a0 ws S ρ C a w) (hd : Rdy ops S j) (ho : ops[j]? = some o) {next : Act → World → Prop} {Q : Exit → Act → World → Prop}
 (hn : ∀ ρ' C' a' w', DInv P Dk w0 ops ts hs ns ρ0 a0 ws (fun i => S i || i == j) ρ' C' a' w' → next a' w') : wpOp P ops.toArray Q j next a w := by
 have hjl := (List.getElem?_eq_some_iff.1 ho).1
 have hsee := hi.sees hx hr hd ho
 have ho' : ops.toArray[j]? = some o := by simpa using ho
 unfold wpOp
 rw [ho']
 simp only
 rcases (hr.stp j o ho).inv with ⟨c, hw, hf, hp⟩ | ⟨eh, en, hw, hp⟩
 · rw [hw _ a hsee o rfl, if_pos rfl]
   refine .inl ?_
   by_cases h0 : clsK o.op = 0
   · unfold OpK at hf
     rw [h0] at hf
     obtain ⟨cf, nb, hc, hn', hh, hz⟩ := hf
     refine hz _ a w (fun _ => none) (ns j) hsee (.empty hi.kp.hr.ext) next Q fun v w' D ⟨ρ1, B, hv⟩ hD => ?_
     obtain ⟨ρ2, C2, h2⟩ := hi.stepZ hx hr hd ho hp (by omega) hn' hh (fun _ => h0) B (by rw [hc]; exact hv) hD
     exact hn _ _ _ _ h2
   · by_cases h1 : clsK o.op = 1
     · unfold OpK at hf
       rw [h1] at hf
       obtain ⟨eh, en, hpk⟩ := hf
       obtain ⟨v, e1, e2⟩ := hi.reads hx hr hd ho hp h1 hw hpk
       refine wp_value e1 ?_
       obtain ⟨ρ2, C2, h2⟩ := hi.stepZ (nb := none) (D := []) hx hr hd ho hp (by omega) en (fun k => by rw [eh]; rfl) (fun h => absurd rfl h) (.refl (.empty hi.kp.hr.ext)) e2 (by simp)
       exact hn _ _ _ _ h2
     · have h2 : clsK o.op = 2 := by
        have : clsK o.op = 0 ∨ clsK o.op = 1 ∨ clsK o.op = 2 := by
         unfold clsK
         split <;> simp
        omega
       obtain ⟨r1, r2⟩ := hd.row hx ⟨o, ho, h2⟩
       have hH := (hi.at hr (by omega : j ≤ ops.length) r1 r2).2.1
       refine hf.fk _ a w hsee hH next Q fun v w' D ⟨ρ1, B, hv⟩ hD => ?_
       obtain ⟨ρ2, C2, h3⟩ := hi.stepM hx hr hd ho hp h2 B hv hD
       exact hn _ _ _ _ h3
 · rw [hw _ a hsee o rfl, if_neg (by simp)]
   by_cases h2 : clsK o.op = 2
   · obtain ⟨r1, r2⟩ := hd.row hx ⟨o, ho, h2⟩
     have hH := (hi.at hr (by omega : j ≤ ops.length) r1 r2).2.1
     obtain ⟨ρ2, C2, h3⟩ := hi.stepM (D := []) (v := undef) hx hr hd ho hp h2 (by rw [eh, en]; exact .refl hH) .v (by simp)
     exact hn _ _ _ _ h3
   · obtain ⟨ρ2, C2, h3⟩ := hi.stepZ (nb := none) (D := []) (v := undef) hx hr hd ho hp h2 en (fun k => by rw [eh]; rfl) (fun h => absurd rfl h) (.refl (.empty hi.kp.hr.ext)) .v (by simp)
     exact hn _ _ _ _ h3
theorem DInv.fin (hx : TX ops) (hr : TRC P Dk w0 ops ts hs ns) (hi : DInv P Dk w0 ops ts hs ns ρ0 a0 ws S ρ C a w) (hall : ∀ i, i < ops.length → S i = true) :
 TRk ρ (ts ops.length) a ∧ KP P w0 ρ0 (hs 0).get (ns 0) ws ρ (hs ops.length).get (ns ops.length) w ∧ Df Dk a0 a := by
 have lt : ∀ i, isM ops i → i < ops.length := fun i ⟨p, h1, _⟩ => (List.getElem?_eq_some_iff.1 h1).1
 obtain ⟨h1, _, _⟩ := hi.at hr (Nat.le_refl _) (fun i hm _ => lt i hm) (fun i hl _ => hall i hl)
 refine ⟨fun x c hc => ?_, hi.kp.agree (fun k hk => ?_) (hi.toh _ (Nat.le_refl _) fun i hl _ => hall i hl), hi.df⟩
 · by_cases hex : ∃ (i : Nat) (p : Oper), ops[i]? = some p ∧ p.dst = some x
   · obtain ⟨i, p, hp, hpd⟩ := hex
     obtain ⟨v, h1, h2⟩ := hi.t1 i p x c hp hpd (hall i (List.getElem?_eq_some_iff.1 hp).1) hc
     exact ⟨v, h1, h2.mono (Nm.cut_sub ρ _)⟩
   · rw [hr.keepT (Nat.zero_le _) (Nat.le_refl _) fun i' h1 h2 p' h3 h4 => hex ⟨i', p', h3, h4⟩] at hc
     obtain ⟨v, h1, h2⟩ := hi.t0 x c (fun i' p' h3 h4 => absurd ⟨i', p', h3, h4⟩ hex) hc
     exact ⟨v, h1, h2.mono (Nm.cut_sub ρ _)⟩
 · have hlt : k < ns ops.length := by
    rcases hk with h | h
    · have := hr.le (Nat.zero_le ops.length) (Nat.le_refl _); omega
    · obtain ⟨q, hq⟩ := Option.ne_none_iff_exists'.1 h
      exact hi.kp.hr.lt hq
   exact h1 k hlt hk
theorem DInv.any (hx : TX ops) (hr : TRC P Dk w0 ops ts hs ns) {Q : Exit → Act → World → Prop} (hQ : ∀ ρ' a' w', TRk ρ' (ts ops.length) a' → KP P w0 ρ0 (hs 0).get (ns 0) ws ρ' (hs ops.length).get (ns ops.length) w' → Df Dk a0 a' → Q .normal a' w') :
 ∀ (fuel : Nat) (listed : Array Bool) (ρ : Nm) (C : KH) (a : Act) (w : World), listed.size = ops.length → Closed ops (fun i => listed.getD i false) → (∀ m, m = (listed.toList.filter (· == false)).length → m = fuel) → DInv P Dk w0 ops ts hs ns ρ0 a0 ws (fun i => listed.getD i false) ρ C a w →
 wpAny P .any ops.toArray Q fuel listed a w := by
 intro fuel
 induction fuel with
 | zero =>
  intro listed ρ C a w hsz hcl hm hinv
  have hfull : ∀ j, j < ops.length → listed.getD j false = true := fun j hj => by
   have h0 : (listed.toList.filter (· == false)).length = 0 := hm _ rfl
   have h1 : listed.toList.filter (· == false) = [] := List.eq_nil_of_length_eq_zero h0
   have hj' : j < listed.size := by omega
   have : listed[j] ∈ listed.toList := by simp
   have h2 := List.filter_eq_nil_iff.1 h1 _ this
   have : listed[j] = true := by simpa using h2
   simp [hj', this]
  obtain ⟨f1, f2, f3⟩ := hinv.fin hx hr hfull
  refine ⟨?_, hQ _ _ _ f1 f2 f3⟩
  rw [List.eq_nil_iff_forall_not_mem]
  intro j hj
  obtain ⟨h1, o, ho, _⟩ := mem_ready.1 hj
  have hjl : j < ops.length := by
   have := (Array.getElem?_eq_some_iff.1 ho).1
   simp at this; exact this
  have h2 := hfull j hjl
  rw [getD_both h1] at h2; cases h2
 | succ fuel ih =>
  intro listed ρ C a w hsz hcl hm hinv
  have hnotall : ∃ j, j < ops.length ∧ listed.getD j false = false := by
   have h1 : (listed.toList.filter (· == false)).length = fuel + 1 := hm _ rfl
   have h2 : listed.toList.filter (· == false) ≠ [] := fun h => by rw [h] at h1; simp at h1
   obtain ⟨b, hb⟩ := List.exists_mem_of_ne_nil _ h2
   obtain ⟨hb1, hb2⟩ := List.mem_filter.1 hb
   obtain ⟨j, hj, hjb⟩ := List.getElem_of_mem hb1
   refine ⟨j, by rw [← hsz]; simp at hj; exact hj, ?_⟩
   have hj' : j < listed.size := by simp at hj; exact hj
   have : listed[j] = b := by simpa using hjb
   have hbf : b = false := by simpa using hb2
   simp [hj', this, hbf]
  refine ⟨fun hnil => ?_, fun j hj => ?_⟩
  · exfalso
    obtain ⟨j, hj1, hj2⟩ := hnotall
    have : ∀ j, j < ops.length → listed.getD j false = false → False := by
     intro j
     induction j using Nat.strongRecOn with
     | _ j ihj =>
      intro h1 h2
      have ho : ops[j]? = some ops[j] := List.getElem?_eq_getElem h1
      by_cases hr' : ∀ e ∈ (ops[j]).after, Region.binds .any e = true → listed.getD e.on false = true
      · have : j ∈ Region.ready .any ops.toArray listed := mem_ready.2 ⟨getD_in (by omega) h2, ops[j], by simp, hr'⟩
        rw [hnil] at this; cases this
      · simp only [Classical.not_forall] at hr'
        obtain ⟨e, he, hb, hne⟩ := hr'
        have hlt := hx.back j _ ho e he hb
        exact ihj e.on hlt (by omega) (by simpa using hne)
    exact this j hj1 hj2
  · obtain ⟨h1, o, ho, hrd⟩ := mem_ready.1 hj
    have ho' : ops[j]? = some o := by simpa using ho
    have hjl : j < ops.length := (List.getElem?_eq_some_iff.1 ho').1
    have hjf : listed.getD j false = false := getD_both h1
    refine hinv.step hx hr (Rdy.of ho' hcl hjf hrd) ho' fun ρ' C' a' w' h' => ?_
    have hS : (fun i => (listed.setIfInBounds j true).getD i false) = fun i => listed.getD i false || i == j := by
     funext i
     by_cases hij : i = j
     · subst hij
       simp [Array.getD_eq_getD_getElem?, show i < listed.size by omega]
     · have h2 : ¬ j = i := fun h => hij h.symm
       simp [Array.getD_eq_getD_getElem?, Array.getElem?_setIfInBounds, h2, hij]
    refine ih _ ρ' C' a' w' (by simpa using hsz) ?_ ?_ (by rw [hS]; exact h')
    · rw [hS]
      intro i oi hoi hsi ed hed hb
      by_cases hij : i = j
      · subst hij
        obtain rfl := Option.some.inj (ho'.symm.trans hoi)
        simp [hrd ed hed hb]
      · have hsi' : listed.getD i false = true := by simpa [hij] using hsi
        have := hcl i oi hoi hsi' ed hed hb
        simp [this]
    · intro m hmm
      have h2 : (listed.toList.filter (· == false)).length = fuel + 1 := hm _ rfl
      have h3 : ∀ (L : List Bool) (j : Nat), L[j]? = some false → ((L.set j true).filter (· == false)).length + 1 = (L.filter (· == false)).length := by
       intro L
       induction L with
       | nil => intro j h; simp at h
       | cons b L ihL =>
        intro j h
        cases j with
        | zero => simp at h; subst h; simp
        | succ j =>
         have := ihL j (by simpa using h)
         cases b <;> simp_all <;> omega
      have h4 := h3 listed.toList j (by
       have hlt : j < listed.size := by omega
       have : listed[j] = false := by simpa [hlt] using hjf
       simp [hlt, this])
      rw [Array.toList_setIfInBounds] at hmm
      omega
theorem DInv.init (hx : TX ops) (hr : TRC P Dk w0 ops ts hs ns) (ht : TRk ρ (ts 0) a) (hh : HR P w0 ρ (hs 0).get (ns 0) w) (hS : ∀ i, S i = false) : DInv P Dk w0 ops ts hs ns ρ a w S ρ (hs 0).get a w := by
 have lt : ∀ k, ρ k ≠ none → k < ns 0 := fun k hk => by
  obtain ⟨q, hq⟩ := Option.ne_none_iff_exists'.1 hk
  exact hh.lt hq
 have quiet : ∀ {k x}, k < ns 0 → Gd ops ns S k x → (hs x).get k = (hs 0).get k := fun {k x} hk ⟨g1, g2, g3, g4⟩ => hr.keepH (Nat.zero_le _) g1 (fun i h1 h2 hm => by
  have := g4 i hm h2 (hS i)
  have := hr.le (Nat.zero_le i) (by omega)
  omega) hk
 refine ⟨.wide hh (hr.le (Nat.zero_le _) (Nat.le_refl _)), fun i o x c _ _ hs' => ?_, fun x c _ hc => ?_, fun k x hl hg => ?_, fun k x y hl hg hy => ?_, fun x hxl hall => ?_, fun k hk => .inl (lt k hk), .refl a⟩
 · rw [hS i] at hs'; cases hs'
 · obtain ⟨v, h1, h2⟩ := ht x c hc
   exact ⟨v, h1, h2.mono fun k p hk => by rw [Nm.cut_lt (hh.lt hk)]; exact hk⟩
 · exact (quiet (hl.elim id (lt k)) hg).symm
 · rw [quiet (lt k hl) hg] at hy
   obtain ⟨q, hq⟩ := Option.ne_none_iff_exists'.1 hl
   exact ((hh.ob k y q.1 q.2 hy hq).bel hh.top).mono (hr.le (Nat.zero_le _) hg.1)
 · exact hr.keepZ (Nat.zero_le _) hxl (fun i h1 h2 hm => by have := hall i h2 hm; rw [hS i] at this; cases this) hh.toh
end
theorem drawK_ok {R : Type} {r : R} {ID : FuncId → Bool} {call : KC R} {t : Tr CV} {h : Tr Blk} {n : Nat} (hm : P.follows .mixedOrders = true) (hT : TOk P T) (hG : ∀ b o u, GT b o u → w0.cell? ⟨b, o, none⟩ = some u) (hID : IdleOK Dk ID) (hc : CallOK P w0 call) {ops : Array Oper} {k : KK R} (hk : drawK T ID call ops.toList k t h n = some r) :
 ∃ t' h' n', k t' h' n' = some r ∧ ∀ id ρ a w Q, TRk ρ t a → HR P w0 ρ h.get n w → (∀ ρ' a' w', TRk ρ' t' a' → KP P w0 ρ h.get n w ρ' h'.get n' w' → Df Dk a a' → Q .normal a' w') → (Code.region id ops true).wp P Q a w := by
 obtain ⟨hx, ts, hs, ns, rfl, rfl, rfl, hr, hk1⟩ := drawK_trc hT hG hID hc hk
 refine ⟨_, _, _, hk1, fun id ρ a w Q ht hh hq => wp_region_any hm ?_⟩
 have hd : HR P w0 ρ (hs 0).get (ns 0) w.drew := hh.drew
 have hi := DInv.init (S := fun i => (Array.replicate ops.size false).getD i false) hx hr ht hd fun i => getD_replicate_false ..
 refine DInv.any (ρ0 := ρ) (a0 := a) (ws := w.drew) hx hr (fun ρ' a' w' h1 h2 h3 => hq ρ' a' w' h1 ((KP.drew hh).trans h2) h3) _ _ ρ _ a _ (by simp) ?_ ?_ hi
 · intro j o ho hs'
   have hs' : (Array.replicate ops.size false).getD j false = true := hs'
   rw [getD_replicate_false] at hs'; cases hs'
 · intro m hm'
   rw [hm']
   simp
end
end
noncomputable section
open Go Go.RowKit MapKept
noncomputable section
variable {P : Program} {Dk : Deferred → Prop} {w0 : World} {T : TypeId → TInfo} {R : Type} {r : R}
def contK (kn : KK R) (kx : Nat → KK R) (kr : KK R) : Exit → KK R
 | .normal => kn
 | .exit i => kx i
 | .ret => kr
 | _ => fun _ _ _ => none
def CK (P : Program) (Dk : Deferred → Prop) (w0 : World) (c : Code) (t : Tr CV) (h : Tr Blk) (n : Nat) (x : Exit) (t' : Tr CV) (h' : Tr Blk) (n' : Nat) : Prop :=
 ∀ ρ a w Q, TRk ρ t a → HR P w0 ρ h.get n w → (∀ ρ' a' w', TRk ρ' t' a' → KP P w0 ρ h.get n w ρ' h'.get n' w' → Df Dk a a' → Q x a' w') → c.wp P Q a w
theorem codeK_ok {ID : FuncId → Bool} {call : KC R} {N : Nat} (hm : P.follows .mixedOrders = true) (hT : TOk P T) (hG : ∀ b o u, GT b o u → w0.cell? ⟨b, o, none⟩ = some u) (hID : IdleOK Dk ID) (hc : CallOK P w0 call) (c : Code) :
 ∀ {kn : KK R} {kx : Nat → KK R} {kr : KK R} {t : Tr CV} {h : Tr Blk} {n : Nat}, codeK T ID call N c kn kx kr t h n = some r → ∃ x t' h' n', contK kn kx kr x t' h' n' = some r ∧ CK P Dk w0 c t h n x t' h' n' := by
 induction c with
 | skip => intro kn kx kr t h n hk; exact ⟨.normal, t, h, n, hk, fun ρ a w Q ht hh hq => wp_skip (hq ρ a w ht (.refl hh) (.refl a))⟩
 | label l => intro kn kx kr t h n hk; exact ⟨.normal, t, h, n, hk, fun ρ a w Q ht hh hq => wp_label (hq ρ a w ht (.refl hh) (.refl a))⟩
 | exit i => intro kn kx kr t h n hk; exact ⟨.exit i, t, h, n, hk, fun ρ a w Q ht hh hq => wp_exit (hq ρ a w ht (.refl hh) (.refl a))⟩
 | ret => intro kn kx kr t h n hk; exact ⟨.ret, t, h, n, hk, fun ρ a w Q ht hh hq => wp_ret (hq ρ a w ht (.refl hh) (.refl a))⟩
 | region id ops dr =>
  intro kn kx kr t h n hk
  cases dr with
  | true =>
   have hk1 : drawK T ID call ops.toList kn t h n = some r := hk
   obtain ⟨t', h', n', hk2, hw⟩ := drawK_ok hm hT hG hID hc hk1
   exact ⟨.normal, t', h', n', hk2, fun ρ a w Q ht hh hq => hw id ρ a w Q ht hh hq⟩
  | false =>
   have hk1 : regK T ID call ops.toList ops.toList kn t h n = some r := hk
   obtain ⟨t', h', n', hk2, hw⟩ := regK_ok hT hG hID hc ops.toList 0 rfl hk1
   refine ⟨.normal, t', h', n', hk2, fun ρ a w Q ht hh hq => wp_region ?_⟩
   have := hw ρ a w Q ht hh hq
   rw [← List.range_eq_range'] at this
   simpa using this
 | seq a b iha ihb =>
  intro kn kx kr t h n hk
  obtain ⟨x1, t1, h1, n1, hk1, c1⟩ := iha hk
  cases x1 with
  | normal =>
   obtain ⟨x2, t2, h2, n2, hk2, c2⟩ := ihb hk1
   exact ⟨x2, t2, h2, n2, hk2, fun ρ a w Q ht hh hq => wp_seq (c1 ρ a w _ ht hh fun ρ1 a1 w1 ht1 kp1 df1 => c2 ρ1 a1 w1 Q ht1 kp1.hr fun ρ2 a2 w2 ht2 kp2 df2 => hq ρ2 a2 w2 ht2 (kp1.trans kp2) (df1.trans df2))⟩
  | exit i => exact ⟨.exit i, t1, h1, n1, hk1, fun ρ a w Q ht hh hq => wp_seq (c1 ρ a w _ ht hh hq)⟩
  | ret => exact ⟨.ret, t1, h1, n1, hk1, fun ρ a w Q ht hh hq => wp_seq (c1 ρ a w _ ht hh hq)⟩
  | _ => cases hk1
 | cond x a b iha ihb =>
  intro kn kx kr t h n hk
  obtain ⟨v, hv, hk1⟩ := evK_ok hk
  obtain ⟨bb, rfl, hk2⟩ := asB_ok hk1
  rcases bB_some hk2 with ⟨rfl, hk3⟩ | ⟨rfl, hk3⟩
  · obtain ⟨x1, t1, h1, n1, hk4, c1⟩ := iha hk3
    exact ⟨x1, t1, h1, n1, hk4, fun ρ a w Q ht hh hq => wp_cond_true (hv ρ a ht).v_inv (c1 ρ a w Q ht hh hq)⟩
  · obtain ⟨x1, t1, h1, n1, hk4, c1⟩ := ihb hk3
    exact ⟨x1, t1, h1, n1, hk4, fun ρ a w Q ht hh hq => wp_cond_false (hv ρ a ht).v_inv (c1 ρ a w Q ht hh hq)⟩
 | block id b ih =>
  intro kn kx kr t h n hk
  obtain ⟨x1, t1, h1, n1, hk1, c1⟩ := ih hk
  cases x1 with
  | normal => exact ⟨.normal, t1, h1, n1, hk1, fun ρ a w Q ht hh hq => wp_block (c1 ρ a w _ ht hh hq)⟩
  | exit i =>
   have hk0 : bB (Nat.beq i id) kn (kx i) t1 h1 n1 = some r := hk1
   rcases hb : Nat.beq i id with _ | _
   · have e := hb
     rw [e] at hk0
     have hk2 : kx i t1 h1 n1 = some r := hk0
     have hne := beq_fa e
     exact ⟨.exit i, t1, h1, n1, hk2, fun ρ a w Q ht hh hq => wp_block (c1 ρ a w _ ht hh fun ρ' a' w' h1 h2 h3 => by
      show (if i = id then Q .normal a' w' else Q (.exit i) a' w')
      rw [if_neg hne]; exact hq ρ' a' w' h1 h2 h3)⟩
   · have e := hb
     rw [e] at hk0
     have hk2 : kn t1 h1 n1 = some r := hk0
     obtain rfl := beq_tr e
     exact ⟨.normal, t1, h1, n1, hk2, fun ρ a w Q ht hh hq => wp_block (c1 ρ a w _ ht hh fun ρ' a' w' h1 h2 h3 => by
      show (if i = i then Q .normal a' w' else _)
      rw [if_pos rfl]; exact hq ρ' a' w' h1 h2 h3)⟩
  | ret => exact ⟨.ret, t1, h1, n1, hk1, fun ρ a w Q ht hh hq => wp_block (c1 ρ a w _ ht hh hq)⟩
  | _ => cases hk1
 | loop b ih =>
  intro kn kx kr t h n hk
  have key : ∀ (N' : Nat) {t : Tr CV} {h : Tr Blk} {n : Nat}, loopF' N' (codeK T ID call N b) kx kr t h n = some r →
   ∃ m x t' h' n', x ≠ .normal ∧ contK kn kx kr x t' h' n' = some r ∧ ∀ ρ a w Q, TRk ρ t a → HR P w0 ρ h.get n w → (∀ ρ' a' w', TRk ρ' t' a' → KP P w0 ρ h.get n w ρ' h'.get n' w' → Df Dk a a' → Q x a' w') → Code.rounds P b Q m a w := by
   intro N'
   induction N' with
   | zero => intro t h n hk; cases hk
   | succ N' ihN =>
    intro t h n hk
    obtain ⟨x1, t1, h1, n1, hk1, c1⟩ := ih hk
    cases x1 with
    | normal =>
     obtain ⟨m, x2, t2, h2, n2, hx2, hk2, c2⟩ := ihN hk1
     exact ⟨m + 1, x2, t2, h2, n2, hx2, hk2, fun ρ a w Q ht hh hq => c1 ρ a w _ ht hh fun ρ1 a1 w1 ht1 kp1 df1 => c2 ρ1 a1 w1 Q ht1 kp1.hr fun ρ2 a2 w2 ht2 kp2 df2 => hq ρ2 a2 w2 ht2 (kp1.trans kp2) (df1.trans df2)⟩
    | exit i => exact ⟨1, .exit i, t1, h1, n1, by simp, hk1, fun ρ a w Q ht hh hq => c1 ρ a w _ ht hh hq⟩
    | ret => exact ⟨1, .ret, t1, h1, n1, by simp, hk1, fun ρ a w Q ht hh hq => c1 ρ a w _ ht hh hq⟩
    | _ => cases hk1
  obtain ⟨m, x2, t2, h2, n2, _, hk2, c2⟩ := key N hk
  exact ⟨x2, t2, h2, n2, hk2, fun ρ a w Q ht hh hq => wp_loop_rounds m (c2 ρ a w Q ht hh hq)⟩
 | scope b ih =>
  intro kn kx kr t h n hk
  obtain ⟨x1, t1, h1, n1, hk1, c1⟩ := ih hk
  cases x1 with
  | normal => exact ⟨.normal, t1, h1, n1, hk1, fun ρ a w Q ht hh hq => wp_scope_straight (c1 ρ a w _ ht hh hq)⟩
  | exit i => exact ⟨.exit i, t1, h1, n1, hk1, fun ρ a w Q ht hh hq => wp_scope_straight (c1 ρ a w _ ht hh hq)⟩
  | ret => exact ⟨.ret, t1, h1, n1, hk1, fun ρ a w Q ht hh hq => wp_scope_straight (c1 ρ a w _ ht hh hq)⟩
  | _ => cases hk1
 | _ => intro kn kx kr t h n hk; cases hk
end
end
noncomputable section
open Go Go.RowKit MapKept
noncomputable section
variable {P : Program} {Dk : Deferred → Prop} {w0 : World} {T : TypeId → TInfo} {R : Type} {r : R}
theorem KP.later {ρ : Nm} {h : KH} {n : Nat} {w w' : World} (hs : HR P w0 ρ h n w) (hx : Ext w w') : KP P w0 ρ h n w ρ h n w' := by
 have k := KP.refl hs
 exact ⟨⟨hs.ext.trans hx, fun x y b m hy hk => (hs.ob x y b m hy hk).mono (NLe.refl ρ) (Below.block hx b (hs.ob x y b m hy hk).lt), hs.lo, hs.inj, hs.top, hs.toh⟩, Nat.le_refl _, fun _ _ => rfl, hx.size,
  fun b hb hf => ⟨Below.block hx b hb, (k.fr b hb hf).2⟩, k.ol, k.fz⟩
theorem leaves_idle {fn : Func} {tmps : Array Value} {Q : Ending → World → Prop} : ∀ (D : List Deferred) (w : World), Ext w0 w → (∀ d ∈ D, DIdle P w0 d) → (∀ w', Ext w w' → ∃ v, (results fn tmps).run P w' = .ok v w' ∧ Q (.returned v) w') → Leaves P fn tmps Q D .returning w
 | [], w, _, _, hq => hq w (Ext.refl w)
 | d :: D, w, h0, hD, hq => by
  obtain ⟨fv, cap, f, args, ht, hw⟩ := hD d (by simp)
  obtain ⟨h1, h2⟩ := hw w h0
  refine ⟨(by intro e; cases e), fv, cap, f, args, ht, h1, fun c cs hc => ?_⟩
  obtain ⟨e, u', w', fr, ⟨⟨v, rfl⟩, rfl, hx⟩, h3⟩ := h2 c cs hc
  exact ⟨.returned v, .returning, w', fr, leaves_idle D w' (h0.trans hx) (fun d hd => hD d (by simp [hd])) fun w'' hx' => hq w'' (hx.trans hx'), h3⟩
theorem argL_ok : ∀ {l : List CV} {i : Nat} {t : Tr CV} {k : Tr CV → Option R}, argL l i t k = some r → ∃ t', k t' = some r ∧ (∀ j, t'.get j = if i ≤ j ∧ j < i + l.length then l[j - i]? else t.get j) ∧ ∀ j, i ≤ j → j < i + l.length → ∃ x, t.get j = some x
 | [], i, t, k, h => ⟨t, h, fun j => by rw [if_neg (by simp only [List.length_nil]; omega)], fun j h1 h2 => by simp at h2; omega⟩
 | c :: l, i, t, k, h => by
  obtain ⟨t1, h1, ⟨x, hx⟩, hat⟩ := Tr.put_ok h
  obtain ⟨t2, h2, h3, h4⟩ := argL_ok (l := l) h1
  refine ⟨t2, h2, fun j => ?_, fun j e1 e2 => ?_⟩
  · rw [h3, hat]
    simp only [List.length_cons]
    by_cases hj : j = i
    · subst hj
      rw [if_neg (by omega), if_pos rfl, if_pos (by omega)]
      simp
    · by_cases hl : i + 1 ≤ j ∧ j < i + 1 + l.length
      · rw [if_pos hl, if_pos (by omega), show j - i = (j - (i + 1)) + 1 by omega]
        rfl
      · rw [if_neg hl, if_neg hj, if_neg (by omega)]
  · by_cases hj : j = i
    · subst hj; exact ⟨x, hx⟩
    · have := h4 j (by omega) (by simp at e2; omega)
      rw [hat, if_neg hj] at this
      exact this
theorem argL_tr {cs : List CV} {vs : List Value} {ρ : Nm} {m : Nat} {t : Tr CV} (hlr : LR (KR ρ) cs vs) (hget : ∀ j, t.get j = if 0 ≤ j ∧ j < 0 + cs.length then cs[j - 0]? else (Tr.fill (.v undef) 64 m).get j) (hin : ∀ j, 0 ≤ j → j < 0 + cs.length → ∃ x, (Tr.fill (CV.v undef) 64 m).get j = some x) :
 TRk ρ t { tmps := vs.toArray ++ Array.replicate (m - vs.toArray.size) undef, defers := [] } := by
 intro i c hc
 rw [hget] at hc
 have hlen := hlr.1
 by_cases hi : i < cs.length
 · rw [if_pos (by omega)] at hc
   obtain ⟨u, hu, hr⟩ := hlr.get (by simpa using hc)
   refine ⟨u, ?_, hr⟩
   have hiv : i < vs.length := by omega
   simp [Array.getElem?_append, hiv]
   rw [List.getElem?_eq_getElem hiv] at hu
   simpa using hu
 · rw [if_neg (by omega)] at hc
   obtain ⟨rfl, hlt⟩ := Tr.fill_ok hc
   refine ⟨undef, ?_, .v⟩
   have hiv : ¬ i < vs.length := by omega
   simp only [Array.getElem?_append, List.size_toArray, if_neg hiv, Array.getElem?_replicate]
   rw [if_pos (by omega)]
theorem resK_ok (hT : TOk P T) (hG : ∀ b o u, GT b o u → w0.cell? ⟨b, o, none⟩ = some u) {h : Tr Blk} {t : Tr CV} : ∀ {rs : List ResultVar} {k : List CV → Option R}, resK T h t rs k = some r →
 ∃ cs, (∀ ρ a w N, TRk ρ t a → HR P w0 ρ h.get N w → ∃ us, (rs.mapM (resOne a.tmps)).run P w = .ok us w ∧ LR (KR ρ) cs us) ∧ k cs = some r
 | [], k, hk => ⟨[], fun _ _ _ _ _ _ => ⟨[], by simp, LR.nil⟩, hk⟩
 | .tmp i :: rs, k, hk => by
  obtain ⟨c, hc, hk1⟩ := oB_some hk
  obtain ⟨cs, hcs, hk2⟩ := resK_ok hT hG (rs := rs) hk1
  refine ⟨c :: cs, fun ρ a w N ht hs => ?_, hk2⟩
  obtain ⟨us, hrun, hlr⟩ := hcs ρ a w N ht hs
  obtain ⟨u, hu, hr⟩ := ht i c hc
  refine ⟨u :: us, ?_, LR.cons hr hlr⟩
  have e : a.tmps.getD i undef = u := by simp [Array.getD_eq_getD_getElem?, hu]
  rw [List.mapM_cons]
  simp only [resOne, Sem.run_bind, Sem.run_pure, Result.andThen_ok, hrun, e]
 | .cell x ty :: rs, k, hk => by
  obtain ⟨p, hp, hk1⟩ := oB_some hk
  obtain ⟨⟨ag, m⟩, hty, hk2⟩ := oB_some hk1
  obtain ⟨c, hc, hk3⟩ := atK_ok (h := h) hG (hT.ty _ _ hty) hk2
  obtain ⟨cs, hcs, hk4⟩ := resK_ok hT hG (rs := rs) hk3
  refine ⟨c :: cs, fun ρ a w N ht hs => ?_, hk4⟩
  obtain ⟨us, hrun, hlr⟩ := hcs ρ a w N ht hs
  obtain ⟨u, hu, hr⟩ := ht x p hp
  obtain ⟨b, o, y, hv, hld, hy⟩ := hc ρ w u N hs hr
  refine ⟨y :: us, ?_, LR.cons hy hlr⟩
  have e : a.tmps.getD x undef = u := by simp [Array.getD_eq_getD_getElem?, hu]
  rw [List.mapM_cons]
  simp only [resOne, Sem.run_bind, e, hv, asAddr, Sem.run_pure, Result.andThen_ok, hld, hrun]
theorem oneK_ok {ρ : Nm} {cs : List CV} {us : List Value} (hlr : LR (KR ρ) cs us) : KR ρ (oneK cs) (if h : us.toArray.size = 1 then us.toArray[0] else .tuple us.toArray) := by
 match cs, us, hlr with
 | [], [], hlr => exact .tu [] rfl (by simp)
 | [c], [u], hlr => simpa [oneK] using hlr.2 0 c u rfl rfl
 | c :: c2 :: cs, u :: u2 :: us, hlr =>
  have : ¬ (u :: u2 :: us).toArray.size = 1 := by simp
  rw [dif_neg this]
  exact .tu _ hlr.1 hlr.2
 | [], u :: us, hlr => have := hlr.1; simp at this
 | [c], [], hlr => have := hlr.1; simp at this
 | [c], u :: u2 :: us, hlr => have := hlr.1; simp at this
 | c :: c2 :: cs, [], hlr => have := hlr.1; simp at this
 | c :: c2 :: cs, [u], hlr => have := hlr.1; simp at this
theorem results_ok {fn : Func} {tmps : Array Value} {w : World} {us : List Value} (h : (fn.results.toList.mapM (resOne tmps)).run P w = .ok us w) : (results fn tmps).run P w = .ok (if h : us.toArray.size = 1 then us.toArray[0] else .tuple us.toArray) w := by
 have hm : (fn.results.mapM (resOne tmps)).run P w = .ok us.toArray w := by
  rw [Array.mapM_eq_mapM_toList]
  simp only [Sem.run_map, h]
  rfl
 rw [results_eq]
 simp only [Sem.run_bind, hm, Result.andThen_ok, Sem.run_pure]
theorem atL_eq {α : Type} : ∀ (l : List α) (i : Nat), atL l i = l[i]?
 | [], i => by cases i <;> rfl
 | x :: l, 0 => rfl
 | x :: l, i + 1 => by
  show atL l i = l[i]?
  exact atL_eq l i
structure EOk (P : Program) (w0 : World) (E : KEnv) : Prop where
 fs : P.funcs.toList = E.fs
 may : ∀ f, Nat.testBit E.may f = true → Enters P f
 idle : IdleOK (DIdle P w0) fun f => Nat.testBit E.idle f
theorem bodyK_ok {E : KEnv} {N : Nat} {call : KC R} (hm : P.follows .mixedOrders = true) (hT : TOk P T) (hG : ∀ b o u, GT b o u → w0.cell? ⟨b, o, none⟩ = some u) (hE : EOk P w0 E) (hc : CallOK P w0 call) : CallOK P w0 (bodyK (R := R) T E N call) := by
 intro f cs h n k r hk
 obtain ⟨hmay, hk1⟩ := bB_none hk
 obtain ⟨fn, hfn, hk2⟩ := oB_some hk1
 obtain ⟨c, hbody, hk3⟩ := oB_some hk2
 obtain ⟨t, hk4, hget, hin⟩ := argL_ok hk3
 obtain ⟨x, t', h', n', hk5, hck⟩ := codeK_ok hm hT hG hE.idle hc c hk4
 have hf : P.funcs[f]? = some fn := by
  rw [atL_eq, ← hE.fs] at hfn
  simpa using hfn
 have hx : (x = .normal ∨ x = .ret) ∧ (resK T h' t' fn.results.toList fun rs => k (oneK rs) h' n') = some r := by
  cases x with
  | normal => exact ⟨.inl rfl, hk5⟩
  | ret => exact ⟨.inr rfl, hk5⟩
  | _ => cases hk5
 obtain ⟨hx, hk6⟩ := hx
 obtain ⟨rs, hrs, hk7⟩ := resK_ok hT hG hk6
 refine ⟨oneK rs, h', n', ⟨hE.may f hmay, fun ρ w vs hs hlr => calls_of_wp_defers hf hbody (hck ρ _ w _ (argL_tr hlr hget hin) hs fun ρ' a' w' ht' hkp ⟨D, hD, hdf⟩ => ?_)⟩, hk7⟩
 have hD' : ∀ d ∈ a'.defers, DIdle P w0 d := by rw [hdf]; simpa using hD
 have : Leaves P fn a'.tmps (fun e w' => ∃ v ρ', e = .returned v ∧ KP P w0 ρ h.get n w ρ' h'.get n' w' ∧ KR ρ' (oneK rs) v) a'.defers .returning w' := by
  refine leaves_idle _ _ hkp.hr.ext hD' fun w'' hx' => ?_
  have hk' := KP.later hkp.hr hx'
  obtain ⟨us, hrun, hlr⟩ := hrs ρ' a' w'' n' ht' hk'.hr
  exact ⟨_, results_ok hrun, _, ρ', rfl, hkp.trans hk', oneK_ok hlr⟩
 rcases hx with rfl | rfl <;> exact this
end
end
noncomputable section
open Go Go.RowKit MapKept
noncomputable section
variable {P : Program} {Dk : Deferred → Prop} {w0 : World} {T : TypeId → TInfo} {R : Type} {r : R}
inductive CRel (m : Nat → Option Nat) : CV → CV → Prop
 | v {x} : CRel m (.v x) (.v x)
 | pt {k o k'} (h : m k = some k') : CRel m (.pt k o) (.pt k' o)
 | sl {k o n c k'} (h : m k = some k') : CRel m (.sl k o n c) (.sl k' o n c)
 | gl {g o} : CRel m (.gl g o) (.gl g o)
 | ag {cs} (ds : List CV) (hl : ds.length = cs.length) (hc : ∀ (j : Nat) c d, cs[j]? = some c → ds[j]? = some d → CRel m c d) : CRel m (.ag cs) (.ag ds)
 | tu {cs} (ds : List CV) (hl : ds.length = cs.length) (hc : ∀ (j : Nat) c d, cs[j]? = some c → ds[j]? = some d → CRel m c d) : CRel m (.tu cs) (.tu ds)
 | cl {fn fs cs} (es ds : List CV) (hl : es.length = fs.length) (hl2 : ds.length = cs.length) (hc : ∀ (j : Nat) c d, fs[j]? = some c → es[j]? = some d → CRel m c d)
  (hc2 : ∀ (j : Nat) c d, cs[j]? = some c → ds[j]? = some d → CRel m c d) : CRel m (.cl fn fs cs) (.cl fn es ds)
def MLe (m m' : Nat → Option Nat) : Prop := ∀ j i, m j = some i → m' j = some i
theorem CRel.mono {m m' : Nat → Option Nat} (hm : MLe m m') {c d : CV} (h : CRel m c d) : CRel m' c d := by
 induction h with
 | v => exact .v
 | pt h => exact .pt (hm _ _ h)
 | sl h => exact .sl (hm _ _ h)
 | gl => exact .gl
 | ag ds hl hc ih => exact .ag ds hl ih
 | tu ds hl hc ih => exact .tu ds hl ih
 | cl es ds hl hl2 hc hc2 ih ih2 => exact .cl es ds hl hl2 ih ih2
theorem CRel.one {m : Nat → Option Nat} {c d : CV} (h : CRel m c d) : d.one = c.one := by cases h <;> rfl
theorem CRel.kr {m : Nat → Option Nat} {ρ ρ' : Nm} (ht : ∀ j i, m j = some i → ∀ p, ρ j = some p → ρ' i = some p) {c d : CV} (h : CRel m c d) : ∀ {u : Value}, KR ρ c u → KR ρ' d u := by
 induction h with
 | v => intro u hu; cases hu; exact .v
 | pt h => intro u hu; cases hu with | pt h' => exact .pt (ht _ _ h _ h')
 | sl h => intro u hu; cases hu with | sl h' ho h1 h3 h4 => exact .sl (ht _ _ h _ h') ho h1 h3 h4
 | gl => intro u hu; cases hu; exact .gl
 | ag ds hl hc ih =>
  intro u hu
  cases hu with
  | ag us hl' hc' =>
   refine .ag us (hl'.trans hl.symm) fun j d u hd hu => ?_
   have hlt := (List.getElem?_eq_some_iff.1 hd).1
   rw [hl] at hlt
   exact ih j _ d (List.getElem?_eq_getElem hlt) hd (hc' j _ u (List.getElem?_eq_getElem hlt) hu)
 | tu ds hl hc ih =>
  intro u hu
  cases hu with
  | tu us hl' hc' =>
   refine .tu us (hl'.trans hl.symm) fun j d u hd hu => ?_
   have hlt := (List.getElem?_eq_some_iff.1 hd).1
   rw [hl] at hlt
   exact ih j _ d (List.getElem?_eq_getElem hlt) hd (hc' j _ u (List.getElem?_eq_getElem hlt) hu)
 | cl es ds hl hl2 hc hc2 ih ih2 =>
  intro u hu
  cases hu with
  | cl us xs hl' hl2' hc' hc2' =>
   refine .cl us xs (hl'.trans hl.symm) (hl2'.trans hl2.symm) (fun j d u hd hu => ?_) (fun j d u hd hu => ?_)
   · have hlt := (List.getElem?_eq_some_iff.1 hd).1
     rw [hl] at hlt
     exact ih j _ d (List.getElem?_eq_getElem hlt) hd (hc' j _ u (List.getElem?_eq_getElem hlt) hu)
   · have hlt := (List.getElem?_eq_some_iff.1 hd).1
     rw [hl2] at hlt
     exact ih2 j _ d (List.getElem?_eq_getElem hlt) hd (hc2' j _ u (List.getElem?_eq_getElem hlt) hu)
def TRel (m : Nat → Option Nat) (t t' : Tr CV) : Prop := ∀ q c', t'.get q = some c' → ∃ c, t.get q = some c ∧ CRel m c c'
theorem TRel.mono {m m' : Nat → Option Nat} (hm : MLe m m') {t t' : Tr CV} (h : TRel m t t') : TRel m' t t' := fun q c hc => let ⟨d, h1, h2⟩ := h q c hc; ⟨d, h1, h2.mono hm⟩
structure Sn (src : Tr Blk) (fz : Bool) (d0 : Tr Blk) (n0 : Nat) (m0 b0 : Tr Nat) (d : Tr Blk) (n : Nat) (m b : Tr Nat) : Prop where
 le : n0 ≤ n
 ml : MLe m0.get m.get
 nw : ∀ j i, m.get j = some i → m0.get j = some i ∨ (n0 ≤ i ∧ i < n ∧ m0.get j = none ∧ b.get i = some j ∧ ∃ cs N e wr cs', src.get j = some (.ce cs N e wr) ∧ d.get i = some (.ce cs' N e (bB fz false wr)) ∧ TRel m.get cs cs')
 bn : ∀ i, n0 ≤ i → i < n → ∃ j, b.get i = some j ∧ m.get j = some i ∧ m0.get j = none
 bo : ∀ i, ¬ (n0 ≤ i ∧ i < n) → b.get i = b0.get i
 dd : ∀ i, ¬ (n0 ≤ i ∧ i < n) → d.get i = d0.get i
section
variable {src : Tr Blk} {fz : Bool} {d0 : Tr Blk} {n0 : Nat} {m0 b0 : Tr Nat}
theorem Sn.refl : Sn src fz d0 n0 m0 b0 d0 n0 m0 b0 := ⟨Nat.le_refl _, fun _ _ h => h, fun _ _ h => .inl h, fun i h1 h2 => by omega, fun _ _ => rfl, fun _ _ => rfl⟩
def SnOK (src : Tr Blk) (fz : Bool) (d0 : Tr Blk) (n0 : Nat) (m0 b0 : Tr Nat) (f : CV → Tr Blk → Nat → Tr Nat → Tr Nat → SnK R CV → Option R) : Prop :=
 ∀ c d n m b k (r : R), Sn src fz d0 n0 m0 b0 d n m b → f c d n m b k = some r → ∃ c' d' n' m' b', Sn src fz d0 n0 m0 b0 d' n' m' b' ∧ MLe m.get m'.get ∧ CRel m'.get c c' ∧ k c' d' n' m' b' = some r
variable {f : CV → Tr Blk → Nat → Tr Nat → Tr Nat → SnK R CV → Option R}
theorem snL_ok (hf : SnOK src fz d0 n0 m0 b0 f) : ∀ {l : List CV} {d n m b} {k : SnK R (List CV)} {r : R}, Sn src fz d0 n0 m0 b0 d n m b → snL f l d n m b k = some r →
 ∃ l' d' n' m' b', Sn src fz d0 n0 m0 b0 d' n' m' b' ∧ MLe m.get m'.get ∧ (l'.length = l.length ∧ ∀ (j : Nat) c c', l[j]? = some c → l'[j]? = some c' → CRel m'.get c c') ∧ k l' d' n' m' b' = some r
 | [], d, n, m, b, k, r, hs, hk => ⟨[], d, n, m, b, hs, fun _ _ h => h, ⟨rfl, by simp⟩, hk⟩
 | c :: l, d, n, m, b, k, r, hs, hk => by
  obtain ⟨c', d1, n1, m1, b1, h1, l1, r1, k1⟩ := hf _ _ _ _ _ _ _ hs hk
  obtain ⟨l', d2, n2, m2, b2, h2, l2, ⟨e1, e2⟩, k2⟩ := snL_ok hf (l := l) h1 k1
  refine ⟨c' :: l', d2, n2, m2, b2, h2, fun j i h => l2 _ _ (l1 _ _ h), ⟨by simp [e1], fun j x y hx hy => ?_⟩, k2⟩
  cases j with
  | zero => simp at hx hy; subst hx; subst hy; exact r1.mono l2
  | succ j => exact e2 j x y (by simpa using hx) (by simpa using hy)
theorem snT_ok (hf : SnOK src fz d0 n0 m0 b0 f) : ∀ {t : Tr CV} {d n m b} {k : SnK R (Tr CV)} {r : R}, Sn src fz d0 n0 m0 b0 d n m b → snT f t d n m b k = some r →
 ∃ t' d' n' m' b', Sn src fz d0 n0 m0 b0 d' n' m' b' ∧ MLe m.get m'.get ∧ TRel m'.get t t' ∧ k t' d' n' m' b' = some r
 | .lf, d, n, m, b, k, r, hs, hk => ⟨.lf, d, n, m, b, hs, fun _ _ h => h, fun q c h => (by cases h), hk⟩
 | .nd l x rr, d, n, m, b, k, r, hs, hk => by
  obtain ⟨l', d1, n1, m1, b1, h1, e1, r1, k1⟩ := snT_ok hf (t := l) hs hk
  cases x with
  | none =>
   obtain ⟨r', d2, n2, m2, b2, h2, e2, r2, k2⟩ := snT_ok hf (t := rr) h1 k1
   refine ⟨.nd l' none r', d2, n2, m2, b2, h2, fun j i h => e2 _ _ (e1 _ _ h), fun q c h => ?_, k2⟩
   rw [Tr.get_nd] at h ⊢
   by_cases h0 : q = 0
   · rw [if_pos h0] at h; cases h
   · rw [if_neg h0] at h ⊢
     by_cases h3 : q % 2 = 1
     · rw [if_pos h3] at h ⊢; obtain ⟨y, g1, g2⟩ := r1 _ c h; exact ⟨y, g1, g2.mono e2⟩
     · rw [if_neg h3] at h ⊢; exact r2 _ c h
  | some x =>
   obtain ⟨x', d3, n3, m3, b3, h3, e3, r3, k3⟩ := hf _ _ _ _ _ _ _ h1 k1
   obtain ⟨r', d2, n2, m2, b2, h2, e2, r2, k2⟩ := snT_ok hf (t := rr) h3 k3
   refine ⟨.nd l' (some x') r', d2, n2, m2, b2, h2, fun j i h => e2 _ _ (e3 _ _ (e1 _ _ h)), fun q c h => ?_, k2⟩
   rw [Tr.get_nd] at h ⊢
   by_cases h0 : q = 0
   · rw [if_pos h0] at h ⊢; cases h; exact ⟨x, rfl, r3.mono e2⟩
   · rw [if_neg h0] at h ⊢
     by_cases h3 : q % 2 = 1
     · rw [if_pos h3] at h ⊢; obtain ⟨y, g1, g2⟩ := r1 _ c h; exact ⟨y, g1, g2.mono fun j i h => e2 _ _ (e3 _ _ h)⟩
     · rw [if_neg h3] at h ⊢; exact r2 _ c h
theorem snNm_ok (hf : SnOK src fz d0 n0 m0 b0 f) {j : Nat} {d n m b} {k : SnK R Nat} {r : R} (hs : Sn src fz d0 n0 m0 b0 d n m b) (hk : snNm src fz f j d n m b k = some r) :
 ∃ i d' n' m' b', Sn src fz d0 n0 m0 b0 d' n' m' b' ∧ MLe m.get m'.get ∧ m'.get j = some i ∧ k i d' n' m' b' = some r := by
 unfold snNm at hk
 cases hj : m.get j with
 | some i => rw [hj] at hk; exact ⟨i, d, n, m, b, hs, fun _ _ h => h, hj, hk⟩
 | none =>
  rw [hj] at hk
  obtain ⟨cs, N, e, wr, hsrc, hk1⟩ := blC_ok hk
  obtain ⟨cs', d1, n1, m1, b1, h1, l1, r1, hk2⟩ := snT_ok hf hs hk1
  obtain ⟨hno, hk3⟩ := bB_none hk2
  have hno : m1.get j = none := by simpa using hno
  obtain ⟨d2, hk4, hd2⟩ := Tr.new_ok hk3
  obtain ⟨m2, hk5, hm2⟩ := Tr.new_ok hk4
  obtain ⟨b2, hk6, hb2⟩ := Tr.new_ok hk5
  rw [kN_eq] at hk6
  have hle := h1.le
  have e12 : MLe m1.get m2.get := fun a c hac => by
   rw [hm2, if_neg]
   · exact hac
   · intro e; subst e; rw [hno] at hac; cases hac
  have hm0 : m0.get j = none := by
   cases h : m0.get j with
   | none => rfl
   | some i => have := h1.ml _ _ h; rw [hno] at this; cases this
  refine ⟨n1, d2, n1 + 1, m2, b2, ⟨by omega, fun a c h => e12 _ _ (h1.ml _ _ h), fun a c h => ?_, fun i hi hi' => ?_, fun i hi => ?_, fun i hi => ?_⟩, fun a c h => e12 _ _ (l1 _ _ h), by rw [hm2, if_pos rfl], hk6⟩
  · rw [hm2] at h
    by_cases ha : a = j
    · subst ha
      rw [if_pos rfl] at h
      cases h
      exact .inr ⟨by omega, by omega, hm0, by rw [hb2, if_pos rfl], cs, N, e, wr, cs', hsrc, by rw [hd2, if_pos rfl], r1.mono e12⟩
    · rw [if_neg ha] at h
      rcases h1.nw a c h with g | ⟨g1, g2, g3, g4, cs2, N2, e2, wr2, cs3, g5, g6, g7⟩
      · exact .inl g
      · exact .inr ⟨g1, by omega, g3, by rw [hb2, if_neg (by omega)]; exact g4, cs2, N2, e2, wr2, cs3, g5, by rw [hd2, if_neg (by omega)]; exact g6, g7.mono e12⟩
  · by_cases hin : i = n1
    · subst hin
      exact ⟨j, by rw [hb2, if_pos rfl], by rw [hm2, if_pos rfl], hm0⟩
    · obtain ⟨a, g1, g2, g3⟩ := h1.bn i hi (by omega)
      exact ⟨a, by rw [hb2, if_neg hin]; exact g1, e12 _ _ g2, g3⟩
  · rw [hb2, if_neg (by omega)]; exact h1.bo i (by omega)
  · rw [hd2, if_neg (by omega)]; exact h1.dd i (by omega)
theorem snC_ok : ∀ N, SnOK src fz d0 n0 m0 b0 (snC (R := R) src fz N)
 | 0 => fun c d n m b k r hs hk => by cases hk
 | N + 1 => fun c d n m b k r hs hk => by
  have ih := snC_ok N
  cases c with
  | v x =>
   have : k (.v x) d n m b = some r := by
    cases x with
    | int kd z => rw [← hk]; show k (.v (.int kd z)) d n m b = kI z fun z => k (.v (.int kd z)) d n m b; rw [kI_eq]
    | _ => exact hk
   exact ⟨_, d, n, m, b, hs, fun _ _ h => h, .v, this⟩
  | gl g o => exact ⟨_, d, n, m, b, hs, fun _ _ h => h, .gl, hk⟩
  | pt j o =>
   obtain ⟨i, d1, n1, m1, b1, h1, l1, e1, k1⟩ := snNm_ok ih hs hk
   rw [kN_eq] at k1
   exact ⟨_, d1, n1, m1, b1, h1, l1, .pt e1, k1⟩
  | sl j o q c =>
   obtain ⟨i, d1, n1, m1, b1, h1, l1, e1, k1⟩ := snNm_ok ih hs hk
   rw [kN_eq, kN_eq] at k1
   refine ⟨.sl i o q c, d1, n1, m1, b1, h1, l1, .sl e1, ?_⟩
   cases c with
   | none => exact k1
   | some c => simp only [kN_eq] at k1; exact k1
  | ag cs =>
   obtain ⟨l', d1, n1, m1, b1, h1, l1, ⟨e1, e2⟩, k1⟩ := snL_ok ih hs hk
   exact ⟨_, d1, n1, m1, b1, h1, l1, .ag l' e1 e2, k1⟩
  | tu cs =>
   obtain ⟨l', d1, n1, m1, b1, h1, l1, ⟨e1, e2⟩, k1⟩ := snL_ok ih hs hk
   exact ⟨_, d1, n1, m1, b1, h1, l1, .tu l' e1 e2, k1⟩
  | cl fn fs cs =>
   obtain ⟨l', d1, n1, m1, b1, h1, l1, ⟨e1, e2⟩, k1⟩ := snL_ok ih hs hk
   obtain ⟨l2, d2, n2, m2, b2, h2, l3, ⟨e3, e4⟩, k2⟩ := snL_ok ih h1 k1
   exact ⟨_, d2, n2, m2, b2, h2, fun _ _ h => l3 _ _ (l1 _ _ h), .cl l' l2 e1 e3 (fun j c d hc hd => (e2 j c d hc hd).mono l3) e4, k2⟩
  | mp j => cases hk
end
end
end
noncomputable section
open Go Go.RowKit MapKept
noncomputable section
variable {P : Program} {Dk : Deferred → Prop} {w0 : World} {T : TypeId → TInfo} {R : Type} {r : R}
theorem BR.crel {m : Nat → Option Nat} {ρ ρ' : Nm} (ht : ∀ j i, m j = some i → ∀ p, ρ j = some p → ρ' i = some p) {w w' : World} {b mm : Nat} {cs cs' : Tr CV} {N : Nat} {e : Option Nat} {wr wr' : Bool} (h : BR P ρ w b mm (.ce cs N e wr)) (hr : TRel m cs cs') (hw : w'.heap[b]? = w.heap[b]?) : BR P ρ' w' b mm (.ce cs' N e wr') := by
 obtain ⟨t, us, h1, h2, h3, h4⟩ := h
 refine ⟨t, us, by rw [hw]; exact h1, h2, fun j c hj => ?_, h4⟩
 obtain ⟨c0, g1, g2⟩ := hr j c hj
 obtain ⟨hl, u, hu, hk, ho⟩ := h3 j c0 g1
 exact ⟨hl, u, hu, g2.kr ht hk, by rw [g2.one]; exact ho⟩
def bnd (bk : Tr Nat) (ρ : Nm) : Nm := fun i => (bk.get i).bind ρ
section
variable {h hs h2 h3 : Tr Blk} {n m n2 n3 : Nat} {mp bk m3 b3 : Tr Nat} {ρ ρ' : Nm} {w w' : World}
theorem Sn.fwd (hS : Sn h true .lf 0 .lf .lf hs m mp bk) (hr : HR P w0 ρ h.get n w) : HR P w0 (bnd bk ρ) hs.get m w ∧ (∀ j i, mp.get j = some i → ∀ p, ρ j = some p → bnd bk ρ i = some p) ∧ ∀ i x, hs.get i = some x → x.wr = false := by
 have nw : ∀ j i, mp.get j = some i → i < m ∧ bk.get i = some j ∧ ∃ cs N e wr cs', h.get j = some (.ce cs N e wr) ∧ hs.get i = some (.ce cs' N e false) ∧ TRel mp.get cs cs' := fun j i hj => by
  rcases hS.nw j i hj with g | ⟨_, g2, _, g4, g5⟩
  · cases g
  · exact ⟨g2, g4, g5⟩
 have tr : ∀ j i, mp.get j = some i → ∀ p, ρ j = some p → bnd bk ρ i = some p := fun j i hj p hp => by
  unfold bnd
  rw [(nw j i hj).2.1]; exact hp
 have inn : ∀ i x, hs.get i = some x → i < m := fun i x hx => by
  by_cases hi : i < m
  · exact hi
  · rw [hS.dd i (by omega)] at hx; cases hx
 have one : ∀ i x, hs.get i = some x → ∃ j cs N e wr cs', bk.get i = some j ∧ h.get j = some (.ce cs N e wr) ∧ x = .ce cs' N e false ∧ TRel mp.get cs cs' := fun i x hx => by
  obtain ⟨j, g1, g2, _⟩ := hS.bn i (Nat.zero_le _) (inn i x hx)
  obtain ⟨_, _, cs, N, e, wr, cs', e1, e2, e3⟩ := nw j i g2
  rw [e2] at hx
  cases hx
  exact ⟨j, cs, N, e, wr, cs', g1, e1, rfl, e3⟩
 refine ⟨⟨hr.ext, fun i x b mm hx hk => ?_, fun i x b mm hx hk => ?_, fun i i' x x' b m1 m2 hx hx' hk hk' hw => ?_, fun i hi => ?_, fun i hi => ?_⟩, tr, fun i x hx => ?_⟩
 · obtain ⟨j, cs, N, e, wr, cs', g1, g2, rfl, g4⟩ := one i x hx
   unfold bnd at hk
   rw [g1] at hk
   exact (hr.ob j _ b mm g2 hk).crel tr g4 rfl
 · obtain ⟨j, cs, N, e, wr, cs', g1, g2, rfl, g4⟩ := one i x hx
   unfold bnd at hk
   rw [g1] at hk
   exact hr.lo j _ b mm g2 hk
 · obtain ⟨j, cs, N, e, wr, cs', g1, g2, rfl, g4⟩ := one i x hx
   cases hw
 · unfold bnd
   rw [hS.bo i (by omega)]; rfl
 · rw [hS.dd i (by omega)]; rfl
 · obtain ⟨j, cs, N, e, wr, cs', g1, g2, rfl, g4⟩ := one i x hx
   rfl
theorem Sn.bwd (hS : Sn h true .lf 0 .lf .lf hs m mp bk) (hr : HR P w0 ρ h.get n w) (B : KP P w0 (bnd bk ρ) hs.get m w ρ' h2.get n2 w') (hB : Sn h2 false h n bk .lf h3 n3 m3 b3) :
 ∃ ρ'', KP P w0 ρ h.get n w ρ'' h3.get n3 w' ∧ ∀ j i, m3.get j = some i → ∀ p, ρ' j = some p → ρ'' i = some p := by
 obtain ⟨hf, htr, hfz⟩ := hS.fwd hr
 have free : ∀ b, Free (bnd bk ρ) hs.get b := fun b k x mm hx hw => by rw [hfz k x hx] at hw; cases hw
 have blk : ∀ b, b < w.heap.size → w'.heap[b]? = w.heap[b]? := fun b hb => (B.fr b hb (free b)).1
 -- names of the picture stand for old names
 have bko : ∀ j i, bk.get j = some i → j < m ∧ i < n := fun j i hj => by
  have hjm : j < m := by
   by_cases h0 : j < m
   · exact h0
   · rw [hS.bo j (by omega)] at hj; cases hj
  obtain ⟨i', g1, g2, _⟩ := hS.bn j (Nat.zero_le _) hjm
  obtain rfl := Option.some.inj (g1.symm.trans hj)
  rcases hS.nw i' j g2 with g | ⟨_, _, _, _, cs, N, e, wr, cs', e1, _⟩
  · cases g
  · exact ⟨hjm, hr.lth e1⟩
 have hn3 := hB.le
 obtain ⟨ρ'', hρ⟩ : ∃ ρ'' : Nm, ρ'' = fun k => if k < n then ρ k else bnd b3 ρ' k := ⟨_, rfl⟩
 have lo : ∀ {k}, k < n → ρ'' k = ρ k := fun {k} hk => by rw [hρ]; exact if_pos hk
 have hi : ∀ {k}, n ≤ k → ρ'' k = bnd b3 ρ' k := fun {k} hk => by rw [hρ]; exact if_neg (by omega)
 have le : NLe ρ ρ'' := fun k p hk => by rw [lo (hr.lt hk)]; exact hk
 have h3o : ∀ {k}, k < n → h3.get k = h.get k := fun {k} hk => hB.dd k (by omega)
 have tr : ∀ j i, m3.get j = some i → ∀ p, ρ' j = some p → ρ'' i = some p := fun j i hj p hp => by
  rcases hB.nw j i hj with g | ⟨g1, g2, g3, g4, _⟩
  · obtain ⟨e1, e2⟩ := bko j i g
    rw [B.ro j e1] at hp
    unfold bnd at hp
    rw [g] at hp
    rw [lo e2]; exact hp
  · rw [hi g1]
    unfold bnd
    rw [g4]; exact hp
 -- a new name
 have new : ∀ k x, n ≤ k → h3.get k = some x → ∃ j cs N e wr cs', m ≤ j ∧ b3.get k = some j ∧ m3.get j = some k ∧ h2.get j = some (.ce cs N e wr) ∧ x = .ce cs' N e wr ∧ TRel m3.get cs cs' := fun k x hk hx => by
  have hk3 : k < n3 := by
   by_cases h0 : k < n3
   · exact h0
   · rw [hB.dd k (by omega), hr.toh k hk] at hx; cases hx
  obtain ⟨j, g1, g2, g3⟩ := hB.bn k hk hk3
  have hjm : m ≤ j := by
   by_cases h0 : j < m
   · obtain ⟨i', e1, _⟩ := hS.bn j (Nat.zero_le _) h0
     rw [e1] at g3; cases g3
   · omega
  rcases hB.nw j k g2 with g | ⟨_, _, _, _, cs, N, e, wr, cs', e1, e2, e3⟩
  · have := (bko j k g).2; omega
  · rw [e2] at hx
    cases hx
    exact ⟨j, cs, N, e, wr, cs', hjm, g1, g2, e1, by cases wr <;> rfl, e3⟩
 have newb : ∀ k x b mm, n ≤ k → h3.get k = some x → ρ'' k = some (b, mm) → ¬ b < w.heap.size := fun k x b mm hk hx hb hlt => by
  obtain ⟨j, cs, N, e, wr, cs', g1, g2, g3, g4, rfl, g6⟩ := new k x hk hx
  rw [hi hk] at hb
  unfold bnd at hb
  rw [g2] at hb
  exact (B.fr b hlt (free b)).2 j _ mm g1 g4 hb
 refine ⟨ρ'', ⟨⟨B.hr.ext, fun k x b mm hx hk => ?_, fun k x b mm hx hk => ?_, fun k k' x x' b m1 m2 hx hx' hk hk' hw => ?_, fun k hk => ?_, fun k hk => ?_⟩, hn3, fun k hk => lo hk, B.sz, fun b hb hfr => ⟨blk b hb, fun k x mm hk hx hb' => newb k x b mm hk hx hb' hb⟩, fun k x hk hx => ⟨x, by rw [← h3o hk]; exact hx, rfl⟩, fun k x hk hx _ => by rw [h3o hk]; exact hx⟩, tr⟩
 · by_cases h0 : k < n
   · rw [lo h0] at hk
     rw [h3o h0] at hx
     have := hr.ob k x b mm hx hk
     exact this.mono le (blk b this.lt)
   · obtain ⟨j, cs, N, e, wr, cs', g1, g2, g3, g4, rfl, g6⟩ := new k x (by omega) hx
     rw [hi (by omega)] at hk
     unfold bnd at hk
     rw [g2] at hk
     exact (B.hr.ob j _ b mm g4 hk).crel tr g6 rfl
 · by_cases h0 : k < n
   · rw [lo h0] at hk
     rw [h3o h0] at hx
     exact hr.lo k x b mm hx hk
   · obtain ⟨j, cs, N, e, wr, cs', g1, g2, g3, g4, rfl, g6⟩ := new k x (by omega) hx
     rw [hi (by omega)] at hk
     unfold bnd at hk
     rw [g2] at hk
     exact B.hr.lo j _ b mm g4 hk
 · by_cases h0 : k < n
   · by_cases h0' : k' < n
     · rw [lo h0] at hk
       rw [h3o h0] at hx
       rw [lo h0'] at hk'
       rw [h3o h0'] at hx'
       exact hr.inj k k' x x' b m1 m2 hx hx' hk hk' hw
     · rw [lo h0] at hk
       rw [h3o h0] at hx
       exact absurd (hr.ob k x b m1 hx hk).lt (newb k' x' b m2 (by omega) hx' hk')
   · by_cases h0' : k' < n
     · rw [lo h0'] at hk'
       rw [h3o h0'] at hx'
       exact absurd (hr.ob k' x' b m2 hx' hk').lt (newb k x b m1 (by omega) hx hk)
     · obtain ⟨j, cs, N, e, wr, cs', g1, g2, g3, g4, rfl, g6⟩ := new k x (by omega) hx
       obtain ⟨j', cs2, N2, e2, wr2, cs2', f1, f2, f3, f4, rfl, f6⟩ := new k' x' (by omega) hx'
       rw [hi (by omega)] at hk hk'
       unfold bnd at hk hk'
       rw [g2] at hk
       rw [f2] at hk'
       have := B.hr.inj j j' _ _ b m1 m2 g4 f4 hk hk' hw
       subst this
       exact Option.some.inj (g3.symm.trans f3)
 · rw [hi (by omega)]
   unfold bnd
   rw [hB.bo k (by omega)]; rfl
 · rw [hB.dd k (by omega)]
   exact hr.toh k (by omega)
end
def MOk (P : Program) (w0 : World) (M : Mem) : Prop := ∀ f cs h n r h' n', M f cs h n = some (r, h', n') → FC P w0 f cs h n r h' n'
theorem picK_ok {M : Mem} {call : KC (CV × Tr Blk × Nat)} (hM : MOk P w0 M) (hc : CallOK P w0 call) : CallOK P w0 (picK (R := R) M call) := by
 intro f cs h n k r hk
 obtain ⟨cs', hs, m, mp, bk, hS, _, ⟨hl, hrel⟩, hk1⟩ := snL_ok (snC_ok 64) Sn.refl hk
 obtain ⟨p, hp, hk2⟩ := oB_some hk1
 obtain ⟨c', h3, n3, m3, b3, hB, _, hcr, hk3⟩ := snC_ok (src := p.2.1) (fz := false) (d0 := h) (n0 := n) (m0 := bk) (b0 := .lf) 64 _ _ _ _ _ _ _ Sn.refl hk2
 have hfc : FC P w0 f cs' hs m p.1 p.2.1 p.2.2 := by
  cases hMf : M f cs' hs m with
  | some q =>
   rw [hMf] at hp
   cases hp
   exact hM f cs' hs m p.1 p.2.1 p.2.2 hMf
  | none =>
   rw [hMf] at hp
   obtain ⟨c, h', n', hfc, hk'⟩ := hc _ _ _ _ _ _ hp
   cases hk'
   exact hfc
 refine ⟨c', h3, n3, ⟨hfc.1, fun ρ w vs hr hlr => ?_⟩, hk3⟩
 obtain ⟨hf, htr, _⟩ := hS.fwd hr
 have hlr' : LR (KR (bnd bk ρ)) cs' vs := ⟨hlr.1.trans hl.symm, fun j c u hj hu => by
  have hlt := (List.getElem?_eq_some_iff.1 hj).1
  rw [hl] at hlt
  exact (hrel j _ c (List.getElem?_eq_getElem hlt) hj).kr htr (hlr.2 j _ u (List.getElem?_eq_getElem hlt) hu)⟩
 refine (hfc.2 _ w vs hf hlr').mono fun e w' ⟨v, ρ', he, hkp, hv⟩ => ?_
 obtain ⟨ρ'', h1, h2⟩ := hS.bwd hr hkp hB
 exact ⟨v, ρ'', he, h1, hcr.kr h2 hv⟩
theorem callK_ok {E : KEnv} {M : Mem} (hm : P.follows .mixedOrders = true) (hT : TOk P T) (hG : ∀ b o u, GT b o u → w0.cell? ⟨b, o, none⟩ = some u) (hE : EOk P w0 E) (hM : MOk P w0 M) : ∀ (N : Nat) {R : Type}, CallOK P w0 (callK T E M N (R := R))
 | 0, R => fun f cs h n k r hk => by cases hk
 | N + 1, R => fun f cs h n k r hk => by
  rcases bB_some (show bB (Nat.testBit E.pic f) (picK M (bodyK T E N (callK T E M N)) f cs h n k) (bodyK T E N (callK T E M N) f cs h n k) = some r from hk) with ⟨_, hk1⟩ | ⟨_, hk1⟩
  · exact picK_ok hM (bodyK_ok hm hT hG hE (callK_ok hm hT hG hE hM N)) _ _ _ _ _ _ hk1
  · exact bodyK_ok hm hT hG hE (callK_ok hm hT hG hE hM N) _ _ _ _ _ _ hk1
end
end
noncomputable section
open Go Go.RowKit MapKept
noncomputable section
variable {P : Program} {Dk : Deferred → Prop} {w0 : World} {T : TypeId → TInfo} {R : Type} {r : R}
def Tr.ofF {α : Type} : Nat → (Nat → α) → Nat → Tr α := Nat.rec (motive := fun _ => (Nat → α) → Nat → Tr α) (fun _ _ => .lf)
 (fun _ ih u n => bB (Nat.beq n 0) .lf (.nd (ih (fun p => u (Nat.succ (Nat.mul 2 p))) (Nat.div n 2)) (some (u 0)) (ih (fun p => u (Nat.succ (Nat.succ (Nat.mul 2 p)))) (Nat.div (Nat.sub n 1) 2))))
theorem Tr.ofF_ok {α : Type} : ∀ {N n i : Nat} {u : Nat → α} {x : α}, (Tr.ofF N u n).get i = some x → x = u i ∧ i < n
 | 0, n, i, u, x, h => by cases h
 | N + 1, n, i, u, x, h => by
  change (bB (Nat.beq n 0) Tr.lf (Tr.nd (Tr.ofF N (fun p => u (2 * p + 1)) (n / 2)) (some (u 0)) (Tr.ofF N (fun p => u (2 * p + 2)) ((n - 1) / 2)))).get i = _ at h
  cases hb : Nat.beq n 0 with
  | true => rw [hb] at h; cases h
  | false =>
   rw [hb] at h
   have hn := beq_fa hb
   change (Tr.nd _ _ _).get i = _ at h
   rw [Tr.get_nd] at h
   split at h
   · rename_i h0; cases h; subst h0; exact ⟨rfl, by omega⟩
   · split at h
     · rename_i h1
       obtain ⟨e, hl⟩ := Tr.ofF_ok h
       exact ⟨by rw [e]; exact congrArg u (by omega), by omega⟩
     · obtain ⟨e, hl⟩ := Tr.ofF_ok h
       exact ⟨by rw [e]; exact congrArg u (by omega), by omega⟩
theorem regS_ok {ID : FuncId → Bool} {call : KC R} (hT : TOk P T) (hG : ∀ b o u, GT b o u → w0.cell? ⟨b, o, none⟩ = some u) (hID : IdleOK Dk ID) (hc : CallOK P w0 call) {ops : List Oper} {k : KK R} : ∀ (l : List Oper) (i : Nat) {t : Tr CV} {h : Tr Blk} {n : Nat}, ops.drop i = l → regK T ID call ops l k t h n = some r →
 ∃ t' h' n', k t' h' n' = some r ∧ ∀ ρ a cs w Q, TRk ρ t a → HR P w0 ρ h.get n w → (∀ ρ' a' w', TRk ρ' t' a' → KP P w0 ρ h.get n w ρ' h'.get n' w' → Df Dk a a' → Q .normal a' cs w') → wpOpsS P ops.toArray Q (List.range' i l.length) a cs w
 | [], i, t, h, n, hd, hk => ⟨t, h, n, hk, fun ρ a cs w Q ht hr hq => hq ρ a w ht (.refl hr) (Df.refl a)⟩
 | o :: l, i, t, h, n, hd, hk => by
  obtain ⟨t1, h1, n1, hs, hk1⟩ := stepK_ok hT hG hID hc hk
  have hd' : ops.drop (i + 1) = l := by rw [← List.drop_drop, hd]; rfl
  have ho : ops[i]? = some o := by
   have := congrArg (·[0]?) hd
   simpa using this
  obtain ⟨t2, h2, n2, hk2, hreg⟩ := regS_ok hT hG hID hc l (i + 1) hd' hk1
  refine ⟨t2, h2, n2, hk2, fun ρ a cs w Q ht hr hq => ?_⟩
  rw [List.length_cons, List.range'_succ]
  unfold wpOpsS
  have ho' : ops.toArray[i]? = some o := by simpa using ho
  simp only [ho']
  have := hs.wp (P := P) ht hr (next := fun a' w' => wpOpsS P ops.toArray Q (List.range' (i + 1) l.length) a' cs w') (Q := fun e a' w' => Q e a' cs w') fun ρ' a' w' ht' hkp hdf => hreg ρ' a' cs w' Q ht' hkp.hr fun ρ'' a'' w'' ht'' hkp' hdf' => hq ρ'' a'' w'' ht'' (hkp.trans hkp') (hdf.trans hdf')
  split
  · rename_i hw
    rw [if_pos hw] at this
    unfold Oper.wp at this
    split
    · rename_i w' e
      rw [e] at this
      exact this.elim
    · exact this
  · rename_i hw
    rw [if_neg hw] at this
    exact this
theorem noneHR (w : World) : HR P w (fun _ => none) (Tr.lf : Tr Blk).get 0 w :=
 ⟨Ext.refl w, fun k x b m h _ => (by cases h), fun k x b m h _ => (by cases h), fun k k' x x' b m m' h _ _ _ _ => (by cases h), fun _ _ => rfl, fun _ _ => rfl⟩
theorem idle_of_run (hm : P.follows .mixedOrders = true) (hT : TOk P T) (hG : ∀ b o u, GT b o u → w0.cell? ⟨b, o, none⟩ = some u) {call : KC Nat} {N : Nat} (hc : ∀ w, Ext w0 w → CallOK P w call)
 {f : FuncId} {fn : Func} {ts : Array TypeId} {id : Nat} {ops : Array Oper} {o : Oper} {l : List Oper} {d : Tmp} {c2 : Code} (he : Enters P f) (hf : P.funcs[f]? = some fn) (hb : fn.body = some (.seq (.region id ops false) c2)) (hops : ops.toList = o :: l) (ho : o.op = .call ⟨.builtin .recover, #[], ts⟩) (hg : o.guard = none) (hd : o.dst = some d) (hres : fn.results.toList = [])
 (hrun : ∀ u : Nat → Value, (Tr.put (.v .nilIface) (Tr.ofF 64 (fun i => .v (u i)) fn.ntmps) d fun t => regK T (fun _ => false) call (o :: l) l (codeK T (fun _ => false) call N c2 (fun _ _ _ => some 0) (fun _ _ _ _ => none) (fun _ _ _ => some 0)) t .lf 0) = some 0) :
 ∀ cap, DIdle P w0 { target := .fn (.func f) cap, args := #[] } := by
 intro cap
 refine ⟨.func f, cap, f, #[] ++ cap, rfl, fun w hw => ⟨run_callFunc he _ w, ?_⟩⟩
 have hG' : ∀ b o u, GT b o u → w.cell? ⟨b, o, none⟩ = some u := fun b o u h => hw.cell (hG b o u h)
 refine callsD_of_wpS hf hb fun c0 cs hu => ?_
 obtain ⟨a0, ha0⟩ : ∃ a0 : Act, a0 = { tmps := (#[] ++ cap) ++ Array.replicate (fn.ntmps - (#[] ++ cap).size) undef, defers := [] } := ⟨_, rfl⟩
 rw [← ha0]
 obtain ⟨t, hk1, ⟨x0, hx0⟩, hat⟩ := Tr.put_ok (hrun fun i => a0.tmps.getD i undef)
 have hDn : IdleOK (fun _ => False) (fun _ => false) := fun f h => by cases h
 obtain ⟨t1, h1, n1, hk2, hreg⟩ := regS_ok (Dk := fun _ => False) (w0 := w) hT hG' hDn (hc w hw) (ops := o :: l) l 1 rfl hk1
 obtain ⟨x, t2, h2, n2, hk3, hck⟩ := codeK_ok (Dk := fun _ => False) (w0 := w) hm hT hG' hDn (hc w hw) c2 hk2
 have hx : x = .normal ∨ x = .ret := by
  cases x with
  | normal => exact .inl rfl
  | ret => exact .inr rfl
  | _ => cases hk3
 have hsz : fn.ntmps ≤ a0.tmps.size := by rw [ha0]; simp; omega
 have htr0 : TRk (fun _ => none) (Tr.ofF 64 (fun i => CV.v (a0.tmps.getD i undef)) fn.ntmps) a0 := fun i c hc => by
  obtain ⟨rfl, hi⟩ := Tr.ofF_ok hc
  have hi' : i < a0.tmps.size := by omega
  refine ⟨a0.tmps[i], Array.getElem?_eq_getElem hi', ?_⟩
  rw [Array.getD_eq_getD_getElem?, Array.getElem?_eq_getElem hi']
  exact .v
 have htr : TRk (fun _ => none) t (a0.put o.dst .nilIface) := by
  rw [hd]
  intro i c hc
  rw [hat] at hc
  have hdl : d < a0.tmps.size := by
   have hlt := (Tr.ofF_ok hx0).2
   exact Nat.lt_of_lt_of_le hlt hsz
  by_cases hi : i = d
  · subst hi
    rw [if_pos rfl] at hc
    cases hc
    exact ⟨.nilIface, by simp [Act.put, hdl], .v⟩
  · rw [if_neg hi] at hc
    obtain ⟨u, hu, hk⟩ := htr0 i c hc
    exact ⟨u, by simp only [Act.put]; rw [Array.getElem?_setIfInBounds_ne (by omega)]; exact hu, hk⟩
 refine wpS_seq (wpS_region ?_)
 have hops' : ops = (o :: l).toArray := by rw [← hops]
 rw [hops', show List.range (o :: l).toArray.size = 0 :: List.range' 1 l.length by rw [List.range_eq_range']; simp [List.range'_succ]]
 have hrec : recoverD (c0 :: cs) = none := by
  unfold recoverD
  simp only [hu]
 unfold wpOpsS
 have hw0 : Region.wanted o (yielded (o :: l).toArray a0.tmps) = true := by simp [Region.wanted, hg]
 have hr0 : (execOp a0.eval o).run P w = .ok .recover w := by simp [execOp, ho, resolve, invoke, builtin]
 simp only [List.getElem?_toArray, List.getElem?_cons_zero, hw0, if_true, hr0, hrec]
 refine hreg (fun _ => none) _ (c0 :: cs) w _ htr (noneHR w) fun ρ1 a1 w1 ht1 kp1 df1 => ?_
 show c2.wpS P _ a1 (c0 :: cs) w1
 refine wpS_of_wp (hck ρ1 a1 w1 _ ht1 kp1.hr fun ρ2 a2 w2 ht2 kp2 df2 => ?_)
 have hdef : a2.defers = [] := by
  obtain ⟨D, hD, e⟩ := df1.trans df2
  have : D = [] := List.eq_nil_iff_forall_not_mem.2 fun x hx => hD x hx
  rw [e, this, put_defers, ha0]
  rfl
 have hfin : a2.defers = [] ∧ ∃ u', (c0 :: cs) = { c0 with mode := u' } :: cs ∧ ∃ v, (results fn a2.tmps).run P w2 = .ok v w2 ∧ ((∃ v', Ending.returned v = .returned v') ∧ u' = .returning ∧ Ext w w2) := by
  refine ⟨hdef, .returning, by rw [← hu], _, results_ok (us := []) (by rw [hres]; simp), ⟨_, rfl⟩, rfl, ?_⟩
  exact kp2.hr.ext
 rcases hx with rfl | rfl <;> exact hfin
end
end
noncomputable section
open Go Go.RowKit MapKept
noncomputable section
variable {P : Program} {Dk : Deferred → Prop} {w0 : World} {T : TypeId → TInfo} {R : Type} {r : R}
def cEqM : List CV → List CV → Bool
 | [], [] => true
 | a :: l, b :: m => bB (cEq a b) (cEqM l m) false
 | _, _ => false
def hEq : Tr Blk → Tr Blk → Bool
 | .lf, .lf => true
 | .nd l x r, .nd l' x' r' => bB (hEq l l') (bB (match x, x' with
  | none, none => true
  | x, x' => blEq x x') (hEq r r') false) false
 | _, _ => false
theorem cEqM_ok : ∀ {l m : List CV}, cEqM l m = true → l = m
 | [], [], _ => rfl
 | a :: l, b :: m, h => by
  unfold cEqM at h
  cases hc : cEq a b with
  | false => rw [hc] at h; cases h
  | true => rw [hc] at h; rw [cEq_ok hc, cEqM_ok h]
 | [], _ :: _, h => by cases h
 | _ :: _, [], h => by cases h
theorem hEq_ok : ∀ {l m : Tr Blk}, hEq l m = true → l = m
 | .lf, .lf, _ => rfl
 | .nd l x r, .nd l' x' r', h => by
  unfold hEq at h
  cases h1 : hEq l l' with
  | false => rw [h1] at h; cases h
  | true =>
   rw [h1] at h
   change bB _ (hEq r r') false = true at h
   have key : ∀ b : Bool, bB b (hEq r r') false = true → b = true ∧ hEq r r' = true := fun b h => by
    cases b with
    | false => cases h
    | true => exact ⟨rfl, h⟩
   obtain ⟨h2, h3⟩ := key _ h
   rw [hEq_ok h1, hEq_ok h3]
   split at h2
   · rfl
   · rw [blEq_ok h2]
 | .lf, .nd _ _ _, h => by cases h
 | .nd _ _ _, .lf, h => by cases h
abbrev MEnt := FuncId × (List CV × Tr Blk × Nat) × (CV × Tr Blk × Nat)
def memK (L : List MEnt) : Mem := fun f cs h n => List.rec (motive := fun _ => Option (CV × Tr Blk × Nat)) none (fun e _ ih => bB (Nat.beq e.1 f) (bB (Nat.beq e.2.1.2.2 n) (bB (cEqM e.2.1.1 cs) (bB (hEq e.2.1.2.1 h) (some e.2.2) ih) ih) ih) ih) L
theorem MOk.nil : MOk P w0 (memK []) := fun f cs h n r h' n' hM => by cases hM
theorem MOk.cons {L : List MEnt} {e : MEnt} (hM : MOk P w0 (memK L)) (hfc : FC P w0 e.1 e.2.1.1 e.2.1.2.1 e.2.1.2.2 e.2.2.1 e.2.2.2.1 e.2.2.2.2) : MOk P w0 (memK (e :: L)) := fun f cs h n r h' n' hk => by
 have key : ∀ {b : Bool} {x y : Option (CV × Tr Blk × Nat)} {z}, bB b x y = some z → (b = true ∧ x = some z) ∨ y = some z := fun {b x y z} h => by
  cases b with
  | true => exact .inl ⟨rfl, h⟩
  | false => exact .inr h
 have old : memK L f cs h n = some (r, h', n') → FC P w0 f cs h n r h' n' := hM f cs h n r h' n'
 change bB (Nat.beq e.1 f) (bB (Nat.beq e.2.1.2.2 n) (bB (cEqM e.2.1.1 cs) (bB (hEq e.2.1.2.1 h) (some e.2.2) (memK L f cs h n)) (memK L f cs h n)) (memK L f cs h n)) (memK L f cs h n) = _ at hk
 rcases key hk with ⟨h1, hk1⟩ | hk
 · rcases key hk1 with ⟨h2, hk2⟩ | hk
   · rcases key hk2 with ⟨h3, hk3⟩ | hk
     · rcases key hk3 with ⟨h4, hk4⟩ | hk
       · obtain rfl := beq_tr h1
         obtain rfl := beq_tr h2
         obtain rfl := cEqM_ok h3
         obtain rfl := hEq_ok h4
         have e5 := Option.some.inj hk4
         rw [e5] at hfc
         exact hfc
       · exact old hk
     · exact old hk
   · exact old hk
 · exact old hk
def triK : CV → Tr Blk → Nat → Option (CV × Tr Blk × Nat) := fun r h n => some (r, h, n)
theorem fc_of_run {E : KEnv} {M : Mem} {N : Nat} (hm : P.follows .mixedOrders = true) (hT : TOk P T) (hG : ∀ b o u, GT b o u → w0.cell? ⟨b, o, none⟩ = some u) (hE : EOk P w0 E) (hM : MOk P w0 M) {f : FuncId} {cs : List CV} {h : Tr Blk} {n : Nat} {p : CV × Tr Blk × Nat} (hk : callK T E M N f cs h n triK = some p) : FC P w0 f cs h n p.1 p.2.1 p.2.2 := by
 obtain ⟨c, h', n', hfc, hk'⟩ := callK_ok hm hT hG hE hM N f cs h n triK p hk
 cases hk'
 exact hfc
def idleRun (T : TypeId → TInfo) (call : KC Nat) (N : Nat) (fn : Func) (u : Nat → Value) : Option Nat := match fn.body with
 | some (.seq (.region _ ops false) c2) => (match ops.toList with
  | o :: l => (match o.op, o.guard, o.dst with
   | .call ⟨.builtin .recover, ⟨[]⟩, _⟩, none, some d => bB fn.results.toList.isEmpty (Tr.put (.v .nilIface) (Tr.ofF 64 (fun i => .v (u i)) fn.ntmps) d fun t => regK T (fun _ => false) call (o :: l) l (codeK T (fun _ => false) call N c2 (fun _ _ _ => some 0) (fun _ _ _ _ => none) (fun _ _ _ => some 0)) t .lf 0) none
   | _, _, _ => none)
  | [] => none)
 | _ => none
theorem idle_of_run' (hm : P.follows .mixedOrders = true) (hT : TOk P T) (hG : ∀ b o u, GT b o u → w0.cell? ⟨b, o, none⟩ = some u) {call : KC Nat} {N : Nat} (hc : ∀ w, Ext w0 w → CallOK P w call)
 {f : FuncId} {fn : Func} (he : Enters P f) (hf : P.funcs[f]? = some fn) (hrun : ∀ u : Nat → Value, idleRun T call N fn u = some 0) : ∀ cap, DIdle P w0 { target := .fn (.func f) cap, args := #[] } := by
 have h0 := hrun fun _ => undef
 unfold idleRun at h0 hrun
 split at h0
 · rename_i id ops c2 hb
   split at h0
   · rename_i o l hops
     split at h0
     · rename_i ts d ho hg hd
       obtain ⟨hr, _⟩ := bB_none h0
       refine idle_of_run (N := N) hm hT hG hc he hf hb hops ho hg hd (by simpa using hr) fun u => ?_
       have h1 := hrun u
       simp only [hb, hops, ho, hg, hd] at h1
       exact (bB_none h1).2
     · cases h0
   · cases h0
 · cases h0
def mayOk (fs : List Func) (m : Nat) : Bool := (List.range fs.length).all fun f => !(Nat.testBit m f) || (match atL fs f with
 | some fn => !(fn.name == "runtime.NumGoroutine") && fn.body.isSome
 | none => false)
theorem enters_of_may {m : Nat} (h : mayOk P.funcs.toList m = true) (hlt : m < 2 ^ P.funcs.toList.length) : ∀ f, Nat.testBit m f = true → Enters P f := by
 intro f hf
 have hfl : f < P.funcs.toList.length := by
  by_cases h0 : f < P.funcs.toList.length
  · exact h0
  · rw [Nat.testBit_lt_two_pow (Nat.lt_of_lt_of_le hlt (Nat.pow_le_pow_right (by omega) (by omega)))] at hf
    cases hf
 have := List.all_eq_true.1 h f (List.mem_range.2 hfl)
 rw [hf] at this
 simp only [Bool.not_true, Bool.false_or] at this
 rw [atL_eq] at this
 split at this
 · rename_i fn hfn
   simp only [Bool.and_eq_true, Bool.not_eq_true'] at this
   have hf' : P.funcs[f]? = some fn := by simpa using hfn
   refine ⟨fn, hf', this.1, ?_⟩
   cases hb : fn.body with
   | none => rw [hb] at this; simp at this
   | some c => rfl
 · cases this
theorem envOk {fs : List Func} {may pic idle : Nat} (hfs : P.funcs.toList = fs) (h : mayOk P.funcs.toList may = true) (hlt : may < 2 ^ P.funcs.toList.length) (hI : IdleOK (DIdle P w0) fun f => Nat.testBit idle f) : EOk P w0 ⟨fs, may, pic, idle⟩ := ⟨hfs, enters_of_may h hlt, hI⟩
end
end
noncomputable section
set_option maxRecDepth 100000
open Go Go.RowKit
abbrev vI : Value := .int .i64 0
abbrev vB : Value := .bool false
abbrev vS : Value := .slice none 0 0
abbrev sI : Sc := .i .i64
abbrev xO : Option (Bool × Nat) := some (false, 1)
def ti1 : TInfo := { ty := xO, ze := some [.nilFunc] }
def ti2 : TInfo := { ty := xO, ze := some [vI], ik := some .i64 }
def ti3 : TInfo := { ty := xO, ze := some [vI], ik := some .i64 }
def ti4 : TInfo := { ty := xO, bo := true, ze := some [vB] }
def ti5 : TInfo := { ty := xO, ze := some [.int .u8 0], ik := some .u8 }
def ti6 : TInfo := { ty := xO, ze := some [.int .u8 0], ik := some .u8 }
def ti7 : TInfo := { ty := some (true, 4), fd := [(0, false, 1), (1, false, 1), (2, false, 1), (3, false, 1)], pl := some ([vI, vI, vB, .int .u8 0], [(0, 1), (1, 1), (2, 1), (3, 1)]), ze := some [vI, vI, vB, .int .u8 0], eq := some ((sI).pr ((sI).pr (Sc.b.pr (Sc.i .u8)))) }
def ti8 : TInfo := { ty := some (true, 4), fd := [(0, false, 1), (1, false, 1), (2, false, 1), (3, false, 1)], pl := some ([vI, vI, vB, .int .u8 0], [(0, 1), (1, 1), (2, 1), (3, 1)]), ze := some [vI, vI, vB, .int .u8 0], eq := some ((sI).pr ((sI).pr (Sc.b.pr (Sc.i .u8)))) }
def ti9 : TInfo := { sg := true }
def ti10 : TInfo := { sg := true }
def ti11 : TInfo := { sg := true }
def ti12 : TInfo := { ty := xO, ze := some [.int .u64 0], ik := some .u64 }
def ti15 : TInfo := { ty := xO, ze := some [.pointer none] }
def ti16 : TInfo := { ty := xO, ze := some [.pointer none] }
def ti17 : TInfo := { ty := xO, ze := some [.pointer none] }
def ti18 : TInfo := { ty := some (true, 1), fd := [(0, false, 1)], pl := some ([.pointer none], [(0, 1)]), ze := some [.pointer none], zv := some (.agg { toList := [.pointer none] }) }
def ti19 : TInfo := { ty := some (true, 1), fd := [(0, false, 1)], pl := some ([.pointer none], [(0, 1)]), ze := some [.pointer none], zv := some (.agg { toList := [.pointer none] }) }
def ti20 : TInfo := { nf := true }
def ti21 : TInfo := { ty := xO, ze := some [.int .i32 0], ik := some .i32 }
def ti22 : TInfo := { ty := some (true, 3), ar := some (3, 5, 1), pl := some ([.int .u8 0, .int .u8 0, .int .u8 0], [(0, 1), (1, 1), (2, 1)]), ze := some [.int .u8 0, .int .u8 0, .int .u8 0], co := some (Sc.i .u8) }
def ti23 : TInfo := { ty := xO, el := some (127, 2, 16, [vI, vI]), slT := true, ze := some [vS], co := some ((sI).pr (sI)) }
def ti24 : TInfo := { ty := xO, ze := some [.nilFunc] }
def ti25 : TInfo := { ty := xO, el := some (198, 4, 32, [vI, vI, vI, vI]), slT := true, ze := some [vS], co := some ((sI).pr ((sI).pr ((sI).pr (sI)))) }
def ti26 : TInfo := { ty := xO, el := some (4, 1, 1, [vB]), slT := true, ze := some [vS], co := some Sc.b }
def ti27 : TInfo := { ty := some (true, 3), fd := [(0, false, 1), (1, false, 1), (2, false, 1)], pl := some ([vS, vI, vS], [(0, 1), (1, 1), (2, 1)]), ze := some [vS, vI, vS] }
def ti28 : TInfo := { ty := some (true, 3), fd := [(0, false, 1), (1, false, 1), (2, false, 1)], pl := some ([vS, vI, vS], [(0, 1), (1, 1), (2, 1)]), ze := some [vS, vI, vS] }
def ti29 : TInfo := { ty := xO, el := some (36, 1, 24, [vS]), slT := true, ze := some [vS], co := some (sI).sl }
def ti30 : TInfo := { ty := some (true, 7), fd := [(0, true, 3), (3, false, 1), (4, false, 1), (5, false, 1), (6, false, 1)], pl := some ([vS, vI, vS, vS, vB, vI, vI], [(0, 3), (3, 1), (4, 1), (5, 1), (6, 1)]), ze := some [vS, vI, vS, vS, vB, vI, vI] }
def ti31 : TInfo := { ty := some (true, 7), fd := [(0, true, 3), (3, false, 1), (4, false, 1), (5, false, 1), (6, false, 1)], pl := some ([vS, vI, vS, vS, vB, vI, vI], [(0, 3), (3, 1), (4, 1), (5, 1), (6, 1)]), ze := some [vS, vI, vS, vS, vB, vI, vI] }
def ti32 : TInfo := { ty := xO, el := some (45, 4, 32, [vI, vI, vI, vB]), slT := true, ze := some [vS], co := some ((sI).pr ((sI).pr ((sI).pr Sc.b))) }
def ti33 : TInfo := { ty := xO, ze := some [vI], ik := some .i64 }
def ti35 : TInfo := { ty := xO, ze := some [.nilFunc] }
def ti36 : TInfo := { ty := xO, el := some (3, 1, 8, [vI]), slT := true, ze := some [vS], co := some (sI) }
def ti38 : TInfo := { ty := xO, ze := some [.nilFunc] }
def ti39 : TInfo := { ty := some (true, 3), fd := [(0, false, 1), (1, false, 1), (2, false, 1)], pl := some ([vI, vI, vS], [(0, 1), (1, 1), (2, 1)]), ze := some [vI, vI, vS] }
def ti40 : TInfo := { ty := some (true, 3), fd := [(0, false, 1), (1, false, 1), (2, false, 1)], pl := some ([vI, vI, vS], [(0, 1), (1, 1), (2, 1)]), ze := some [vI, vI, vS] }
def ti42 : TInfo := { ty := xO, ze := some [.nilFunc] }
def ti43 : TInfo := { ty := xO, ze := some [.nilFunc] }
def ti44 : TInfo := { ty := some (true, 4), fd := [(0, false, 1), (1, false, 1), (2, false, 1), (3, false, 1)], pl := some ([vI, vI, vI, vB], [(0, 1), (1, 1), (2, 1), (3, 1)]), ze := some [vI, vI, vI, vB], eq := some ((sI).pr ((sI).pr ((sI).pr Sc.b))) }
def ti45 : TInfo := { ty := some (true, 4), fd := [(0, false, 1), (1, false, 1), (2, false, 1), (3, false, 1)], pl := some ([vI, vI, vI, vB], [(0, 1), (1, 1), (2, 1), (3, 1)]), ze := some [vI, vI, vI, vB], eq := some ((sI).pr ((sI).pr ((sI).pr Sc.b))) }
def ti46 : TInfo := { ty := xO, ze := some [.nilFunc] }
def ti47 : TInfo := { ty := xO, ze := some [.nilFunc] }
def ti48 : TInfo := { ty := some (true, 2), fd := [(0, false, 1), (1, false, 1)], pl := some ([vI, vI], [(0, 1), (1, 1)]), ze := some [vI, vI], eq := some ((sI).pr (sI)), zv := some (.agg { toList := [vI, vI] }) }
def ti49 : TInfo := { ty := some (true, 2), fd := [(0, false, 1), (1, false, 1)], pl := some ([vI, vI], [(0, 1), (1, 1)]), ze := some [vI, vI], eq := some ((sI).pr (sI)), zv := some (.agg { toList := [vI, vI] }) }
def ti50 : TInfo := { ty := xO, el := some (49, 2, 16, [vI, vI]), slT := true, ze := some [vS], co := some ((sI).pr (sI)) }
def ti51 : TInfo := { ty := xO, el := some (55, 3, 24, [vI, vI, vI]), slT := true, ze := some [vS], co := some ((sI).pr ((sI).pr (sI))) }
def ti52 : TInfo := { ty := some (true, 3), fd := [(0, false, 1), (1, false, 1), (2, false, 1)], pl := some ([vI, vS, vS], [(0, 1), (1, 1), (2, 1)]), ze := some [vI, vS, vS] }
def ti53 : TInfo := { ty := some (true, 3), fd := [(0, false, 1), (1, false, 1), (2, false, 1)], pl := some ([vI, vS, vS], [(0, 1), (1, 1), (2, 1)]), ze := some [vI, vS, vS] }
def ti54 : TInfo := { ty := some (true, 3), fd := [(0, false, 1), (1, false, 1), (2, false, 1)], pl := some ([vI, vI, vI], [(0, 1), (1, 1), (2, 1)]), ze := some [vI, vI, vI], eq := some ((sI).pr ((sI).pr (sI))) }
def ti55 : TInfo := { ty := some (true, 3), fd := [(0, false, 1), (1, false, 1), (2, false, 1)], pl := some ([vI, vI, vI], [(0, 1), (1, 1), (2, 1)]), ze := some [vI, vI, vI], eq := some ((sI).pr ((sI).pr (sI))) }
def ti56 : TInfo := { ty := xO, el := some (5, 1, 1, [.int .u8 0]), slT := true, ze := some [vS], co := some (Sc.i .u8) }
def ti58 : TInfo := { ty := xO, ze := some [.nilFunc] }
def ti59 : TInfo := { ty := xO, el := some (169, 4, 32, [vI, vI, vI, vB]), slT := true, ze := some [vS], co := some ((sI).pr ((sI).pr ((sI).pr Sc.b))) }
def ti60 : TInfo := { ty := some (true, 2), fd := [(0, false, 1), (1, false, 1)], pl := some ([vI, vS], [(0, 1), (1, 1)]), ze := some [vI, vS], zv := some (.agg { toList := [vI, vS] }) }
def ti61 : TInfo := { ty := some (true, 2), fd := [(0, false, 1), (1, false, 1)], pl := some ([vI, vS], [(0, 1), (1, 1)]), ze := some [vI, vS], zv := some (.agg { toList := [vI, vS] }) }
def ti62 : TInfo := { ty := some (true, 4), fd := [(0, true, 2), (2, false, 1), (3, false, 1)], pl := some ([vI, vS, vI, vI], [(0, 2), (2, 1), (3, 1)]), ze := some [vI, vS, vI, vI] }
def ti63 : TInfo := { ty := some (true, 4), fd := [(0, true, 2), (2, false, 1), (3, false, 1)], pl := some ([vI, vS, vI, vI], [(0, 2), (2, 1), (3, 1)]), ze := some [vI, vS, vI, vI] }
def ti65 : TInfo := { ty := xO, ze := some [.nilFunc] }
def ti66 : TInfo := { ty := xO, el := some (74, 3, 40, [vI, vI, vS]), slT := true, ze := some [vS], co := some ((sI).pr ((sI).pr (sI).sl)) }
def ti68 : TInfo := { ty := xO, ze := some [.nilFunc] }
def ti69 : TInfo := { ty := some (true, 5), fd := [(0, false, 1), (1, false, 1), (2, true, 3)], pl := some ([vI, vI, vI, vI, vS], [(0, 1), (1, 1), (2, 3)]), ze := some [vI, vI, vI, vI, vS] }
def ti70 : TInfo := { ty := some (true, 5), fd := [(0, false, 1), (1, false, 1), (2, true, 3)], pl := some ([vI, vI, vI, vI, vS], [(0, 1), (1, 1), (2, 3)]), ze := some [vI, vI, vI, vI, vS] }
def ti71 : TInfo := { ty := xO, ze := some [.nilFunc] }
def ti72 : TInfo := { ty := xO, ze := some [.nilFunc] }
def ti73 : TInfo := { ty := some (true, 3), fd := [(0, false, 1), (1, false, 1), (2, false, 1)], pl := some ([vI, vI, vS], [(0, 1), (1, 1), (2, 1)]), ze := some [vI, vI, vS] }
def ti74 : TInfo := { ty := some (true, 3), fd := [(0, false, 1), (1, false, 1), (2, false, 1)], pl := some ([vI, vI, vS], [(0, 1), (1, 1), (2, 1)]), ze := some [vI, vI, vS] }
def ti76 : TInfo := { ty := xO, ze := some [.nilFunc] }
def ti77 : TInfo := { ty := xO, el := some (85, 3, 72, [vS, vS, vS]), slT := true, ze := some [vS], co := some ((sI).sl.pr ((sI).sl.pr (sI).sl.sl)) }
def ti79 : TInfo := { ty := xO, ze := some [.nilFunc] }
def ti80 : TInfo := { ty := xO, ze := some [.int .u32 0], ik := some .u32 }
def ti81 : TInfo := { ty := xO, el := some (80, 1, 4, [.int .u32 0]), slT := true, ze := some [vS], co := some (Sc.i .u32) }
def ti83 : TInfo := { ty := xO, ze := some [.nilFunc] }
def ti84 : TInfo := { ty := some (true, 3), fd := [(0, false, 1), (1, false, 1), (2, false, 1)], pl := some ([vS, vS, vS], [(0, 1), (1, 1), (2, 1)]), ze := some [vS, vS, vS] }
def ti85 : TInfo := { ty := some (true, 3), fd := [(0, false, 1), (1, false, 1), (2, false, 1)], pl := some ([vS, vS, vS], [(0, 1), (1, 1), (2, 1)]), ze := some [vS, vS, vS] }
def ti86 : TInfo := { ty := xO, ze := some [.nilFunc] }
def ti88 : TInfo := { ty := xO, ze := some [.nilFunc] }
def ti90 : TInfo := { ty := xO, ze := some [.nilFunc] }
def ti91 : TInfo := { ty := some (true, 2), fd := [(0, false, 1), (1, false, 1)], pl := some ([vI, vS], [(0, 1), (1, 1)]), ze := some [vI, vS], zv := some (.agg { toList := [vI, vS] }) }
def ti92 : TInfo := { ty := some (true, 2), fd := [(0, false, 1), (1, false, 1)], pl := some ([vI, vS], [(0, 1), (1, 1)]), ze := some [vI, vS], zv := some (.agg { toList := [vI, vS] }) }
def ti94 : TInfo := { ty := xO, ze := some [.nilFunc] }
def ti95 : TInfo := { ty := xO, ze := some [.nilFunc] }
def ti96 : TInfo := { ty := xO, ze := some [.nilFunc] }
def ti97 : TInfo := { ty := xO, ze := some [.nilFunc] }
def ti98 : TInfo := { ty := some (true, 2), fd := [(0, false, 1), (1, false, 1)], pl := some ([vS, vS], [(0, 1), (1, 1)]), ze := some [vS, vS], zv := some (.agg { toList := [vS, vS] }) }
def ti99 : TInfo := { ty := some (true, 2), fd := [(0, false, 1), (1, false, 1)], pl := some ([vS, vS], [(0, 1), (1, 1)]), ze := some [vS, vS], zv := some (.agg { toList := [vS, vS] }) }
def ti101 : TInfo := { ty := xO, ze := some [.nilFunc] }
def ti103 : TInfo := { ty := xO, ze := some [.nilFunc] }
def ti104 : TInfo := { ty := some (true, 3), fd := [(0, false, 1), (1, false, 1), (2, false, 1)], pl := some ([vI, vS, vS], [(0, 1), (1, 1), (2, 1)]), ze := some [vI, vS, vS] }
def ti105 : TInfo := { ty := some (true, 3), fd := [(0, false, 1), (1, false, 1), (2, false, 1)], pl := some ([vI, vS, vS], [(0, 1), (1, 1), (2, 1)]), ze := some [vI, vS, vS] }
def ti107 : TInfo := { ty := xO, ze := some [.nilFunc] }
def ti109 : TInfo := { ty := xO, ze := some [.nilFunc] }
def ti111 : TInfo := { ty := xO, ze := some [.nilFunc] }
def ti112 : TInfo := { ty := xO, el := some (190, 5, 32, [vB, vB, vI, vI, vI]), slT := true, ze := some [vS], co := some (Sc.b.pr (Sc.b.pr (((sI).pr (sI)).pr (sI)))) }
def ti114 : TInfo := { ty := xO, ze := some [.nilFunc] }
def ti116 : TInfo := { ty := xO, ze := some [.nilFunc] }
def ti117 : TInfo := { ty := xO, ze := some [.nilFunc] }
def ti118 : TInfo := { ty := xO, ze := some [.nilFunc] }
def ti119 : TInfo := { ty := xO, ze := some [.nilFunc] }
def ti120 : TInfo := { ty := xO, ze := some [.nilFunc] }
def ti121 : TInfo := { ty := xO, ze := some [.nilFunc] }
def ti122 : TInfo := { ty := xO, ze := some [.nilFunc] }
def ti123 : TInfo := { ty := xO, ze := some [.nilFunc] }
def ti124 : TInfo := { ty := xO, ze := some [.pointer none] }
def ti125 : TInfo := { ty := some (true, 8), fd := [(0, true, 7), (7, false, 1)], pl := some ([vS, vI, vS, vS, vB, vI, vI, vS], [(0, 7), (7, 1)]), ze := some [vS, vI, vS, vS, vB, vI, vI, vS] }
def ti126 : TInfo := { ty := some (true, 8), fd := [(0, true, 7), (7, false, 1)], pl := some ([vS, vI, vS, vS, vB, vI, vI, vS], [(0, 7), (7, 1)]), ze := some [vS, vI, vS, vS, vB, vI, vI, vS] }
def ti127 : TInfo := { ty := some (true, 2), ar := some (2, 3, 1), pl := some ([vI, vI], [(0, 1), (1, 1)]), ze := some [vI, vI], co := some (sI) }
def ti128 : TInfo := { ty := xO, ze := some [.nilFunc] }
def ti129 : TInfo := { ty := xO, ze := some [.nilFunc] }
def ti130 : TInfo := { ty := xO, ze := some [.nilFunc] }
def ti131 : TInfo := { ty := xO, el := some (134, 2, 16, [vI, vI]), slT := true, ze := some [vS], co := some ((sI).pr (sI)) }
def ti132 : TInfo := { ty := xO, ze := some [.nilFunc] }
def ti133 : TInfo := { ty := some (true, 2), fd := [(0, false, 1), (1, false, 1)], pl := some ([vI, vI], [(0, 1), (1, 1)]), ze := some [vI, vI], eq := some ((sI).pr (sI)), zv := some (.agg { toList := [vI, vI] }) }
def ti134 : TInfo := { ty := some (true, 2), fd := [(0, false, 1), (1, false, 1)], pl := some ([vI, vI], [(0, 1), (1, 1)]), ze := some [vI, vI], eq := some ((sI).pr (sI)), zv := some (.agg { toList := [vI, vI] }) }
def ti135 : TInfo := { ty := xO, ze := some [.nilFunc] }
def ti136 : TInfo := { ty := xO, ze := some [.nilFunc] }
def ti137 : TInfo := { ty := xO, ze := some [.nilFunc] }
def ti138 : TInfo := { ty := xO, el := some (53, 3, 56, [vI, vS, vS]), slT := true, ze := some [vS], co := some ((sI).pr (((sI).pr (sI)).sl.pr ((sI).pr ((sI).pr (sI))).sl)) }
def ti140 : TInfo := { ty := xO, ze := some [.nilFunc] }
def ti142 : TInfo := { ty := xO, ze := some [.nilFunc] }
def ti143 : TInfo := { ty := xO, ze := some [.nilFunc] }
def ti145 : TInfo := { ty := xO, ze := some [.nilFunc] }
def ti147 : TInfo := { ty := xO, ze := some [.nilFunc] }
def ti148 : TInfo := { ty := xO, ze := some [.nilFunc] }
def ti149 : TInfo := { ty := xO, ze := some [.nilFunc] }
def ti150 : TInfo := { ty := xO, ze := some [.nilFunc] }
def ti151 : TInfo := { ty := xO, ze := some [.nilFunc] }
def ti152 : TInfo := { ty := xO, ze := some [.nilFunc] }
def ti153 : TInfo := { ty := xO, ze := some [.pointer none] }
def ti155 : TInfo := { ty := xO, ze := some [.nilFunc] }
def ti156 : TInfo := { ty := xO, ze := some [.nilFunc] }
def ti157 : TInfo := { ty := some (true, 6), fd := [(0, true, 3), (3, false, 1), (4, false, 1), (5, false, 1)], pl := some ([vS, vS, vS, vS, vI, vI], [(0, 3), (3, 1), (4, 1), (5, 1)]), ze := some [vS, vS, vS, vS, vI, vI] }
def ti158 : TInfo := { ty := some (true, 6), fd := [(0, true, 3), (3, false, 1), (4, false, 1), (5, false, 1)], pl := some ([vS, vS, vS, vS, vI, vI], [(0, 3), (3, 1), (4, 1), (5, 1)]), ze := some [vS, vS, vS, vS, vI, vI] }
def ti159 : TInfo := { ty := xO, ze := some [.nilFunc] }
def ti160 : TInfo := { ty := xO, ze := some [.nilFunc] }
def ti161 : TInfo := { ty := xO, ze := some [.nilFunc] }
def ti162 : TInfo := { ty := xO, ze := some [.nilFunc] }
def ti163 : TInfo := { ty := xO, ze := some [.nilFunc] }
def ti164 : TInfo := { ty := xO, el := some (3, 1, 8, [vI]), slT := true, ze := some [vS], co := some (sI) }
def ti165 : TInfo := { ty := xO, ze := some [.nilFunc] }
def ti166 : TInfo := { ty := xO, ze := some [.nilFunc] }
def ti167 : TInfo := { ty := xO, ze := some [.nilFunc] }
def ti168 : TInfo := { ty := some (true, 4), fd := [(0, false, 1), (1, false, 1), (2, false, 1), (3, false, 1)], pl := some ([vI, vI, vI, vB], [(0, 1), (1, 1), (2, 1), (3, 1)]), ze := some [vI, vI, vI, vB], eq := some ((sI).pr ((sI).pr ((sI).pr Sc.b))) }
def ti169 : TInfo := { ty := some (true, 4), fd := [(0, false, 1), (1, false, 1), (2, false, 1), (3, false, 1)], pl := some ([vI, vI, vI, vB], [(0, 1), (1, 1), (2, 1), (3, 1)]), ze := some [vI, vI, vI, vB], eq := some ((sI).pr ((sI).pr ((sI).pr Sc.b))) }
def ti171 : TInfo := { ty := xO, ze := some [.nilFunc] }
def ti172 : TInfo := { ty := xO, ze := some [.int .u64 0], ik := some .u64 }
def ti173 : TInfo := { ty := xO, ze := some [.nilFunc] }
def ti174 : TInfo := { ty := xO, ze := some [.nilFunc] }
def ti176 : TInfo := { ty := xO, ze := some [.nilFunc] }
def ti178 : TInfo := { ty := xO, ze := some [.nilFunc] }
def ti179 : TInfo := { ty := xO, ze := some [.nilFunc] }
def ti181 : TInfo := { ty := xO, ze := some [.nilFunc] }
def ti182 : TInfo := { ty := xO, ze := some [.nilFunc] }
def ti184 : TInfo := { ty := xO, ze := some [.nilFunc] }
def ti185 : TInfo := { ty := xO, ze := some [.nilFunc] }
def ti186 : TInfo := { ty := xO, ze := some [.nilFunc] }
def ti187 : TInfo := { ty := xO, ze := some [.nilFunc] }
def ti188 : TInfo := { ty := xO, ze := some [.nilFunc] }
def ti189 : TInfo := { ty := some (true, 5), fd := [(0, false, 1), (1, false, 1), (2, true, 2), (4, false, 1)], pl := some ([vB, vB, vI, vI, vI], [(0, 1), (1, 1), (2, 2), (4, 1)]), ze := some [vB, vB, vI, vI, vI] }
def ti190 : TInfo := { ty := some (true, 5), fd := [(0, false, 1), (1, false, 1), (2, true, 2), (4, false, 1)], pl := some ([vB, vB, vI, vI, vI], [(0, 1), (1, 1), (2, 2), (4, 1)]), ze := some [vB, vB, vI, vI, vI] }
def ti192 : TInfo := { ty := xO, ze := some [.nilFunc] }
def ti193 : TInfo := { ty := xO, ze := some [.nilFunc] }
def ti194 : TInfo := { ty := xO, ze := some [.nilFunc] }
def ti195 : TInfo := { ty := xO, ze := some [.nilFunc] }
def ti196 : TInfo := { ty := xO, ze := some [.nilFunc] }
def ti197 : TInfo := { ty := some (true, 4), fd := [(0, false, 1), (1, false, 1), (2, false, 1), (3, false, 1)], pl := some ([vI, vI, vI, vI], [(0, 1), (1, 1), (2, 1), (3, 1)]), ze := some [vI, vI, vI, vI], eq := some ((sI).pr ((sI).pr ((sI).pr (sI)))) }
def ti198 : TInfo := { ty := some (true, 4), fd := [(0, false, 1), (1, false, 1), (2, false, 1), (3, false, 1)], pl := some ([vI, vI, vI, vI], [(0, 1), (1, 1), (2, 1), (3, 1)]), ze := some [vI, vI, vI, vI], eq := some ((sI).pr ((sI).pr ((sI).pr (sI)))) }
def ti199 : TInfo := { ty := xO, ze := some [.nilFunc] }
def ti200 : TInfo := { ty := xO, ze := some [.map none], mp := some (TypeDesc.int .i64, vI), kv := some (sI, sI) }
def ti201 : TInfo := { ty := xO, ze := some [.nilFunc] }
def ti202 : TInfo := { ty := xO, ze := some [.nilFunc] }
def ti203 : TInfo := { ty := xO, ze := some [.nilFunc] }
def ti204 : TInfo := { ty := xO, ze := some [.nilFunc] }
def ti206 : TInfo := { ty := xO, ze := some [.nilFunc] }
def ti207 : TInfo := { ty := xO, ze := some [.nilFunc] }
def ti208 : TInfo := { ty := xO, ze := some [.nilFunc] }
def ti209 : TInfo := { ty := xO, ze := some [.nilFunc] }
def ti210 : TInfo := { ty := xO, ze := some [.nilFunc] }
def ti211 : TInfo := { ty := some (true, 2), fd := [(0, false, 1), (1, false, 1)], pl := some ([vI, vI], [(0, 1), (1, 1)]), ze := some [vI, vI], eq := some ((sI).pr (sI)), zv := some (.agg { toList := [vI, vI] }) }
def ti212 : TInfo := { ty := some (true, 2), fd := [(0, false, 1), (1, false, 1)], pl := some ([vI, vI], [(0, 1), (1, 1)]), ze := some [vI, vI], eq := some ((sI).pr (sI)), zv := some (.agg { toList := [vI, vI] }) }
def ti213 : TInfo := { ty := xO, ze := some [.nilFunc] }
def ti214 : TInfo := { ty := xO, ze := some [.pointer none] }
def ti215 : TInfo := { ty := some (true, 2), fd := [(0, false, 1), (1, false, 1)], pl := some ([vS, vI], [(0, 1), (1, 1)]), ze := some [vS, vI], zv := some (.agg { toList := [vS, vI] }) }
def ti216 : TInfo := { ty := some (true, 2), fd := [(0, false, 1), (1, false, 1)], pl := some ([vS, vI], [(0, 1), (1, 1)]), ze := some [vS, vI], zv := some (.agg { toList := [vS, vI] }) }
def ti217 : TInfo := { ty := xO, ze := some [.nilFunc] }
def ti218 : TInfo := { ty := some (true, 1), fd := [(0, false, 1)], pl := some ([vI], [(0, 1)]), ze := some [vI], eq := some (sI), zv := some (.agg { toList := [vI] }) }
def ti219 : TInfo := { ty := some (true, 1), fd := [(0, false, 1)], pl := some ([vI], [(0, 1)]), ze := some [vI], eq := some (sI), zv := some (.agg { toList := [vI] }) }
def ti221 : TInfo := { ty := xO, ze := some [.pointer none] }
def ti222 : TInfo := { ty := some (true, 7), fd := [(0, true, 4), (4, true, 3)], pl := some ([vI, vS, vI, vI, vI, vI, vS], [(0, 4), (4, 3)]), ze := some [vI, vS, vI, vI, vI, vI, vS] }
def ti223 : TInfo := { ty := some (true, 7), fd := [(0, true, 4), (4, true, 3)], pl := some ([vI, vS, vI, vI, vI, vI, vS], [(0, 4), (4, 3)]), ze := some [vI, vS, vI, vI, vI, vI, vS] }
def ti224 : TInfo := { ty := xO, ze := some [.nilFunc] }
def ti225 : TInfo := { ty := xO, ze := some [.nilFunc] }
def ti226 : TInfo := { ty := xO, ze := some [.nilFunc] }
def ti227 : TInfo := { ty := some (true, 8), ar := some (8, 3, 1), pl := some ([vI, vI, vI, vI, vI, vI, vI, vI], [(0, 1), (1, 1), (2, 1), (3, 1), (4, 1), (5, 1), (6, 1), (7, 1)]), ze := some [vI, vI, vI, vI, vI, vI, vI, vI], co := some (sI) }
def ti228 : TInfo := { ty := xO, ze := some [.nilFunc] }
def ti229 : TInfo := { ty := xO, ze := some [.nilFunc] }
def ti230 : TInfo := { ty := xO, ze := some [.nilFunc] }
def ti231 : TInfo := { ty := xO, ze := some [.nilFunc] }
def ti232 : TInfo := { ty := xO, ze := some [.nilFunc] }
def ti233 : TInfo := { ty := xO, ze := some [.nilFunc] }
def ti234 : TInfo := { ty := xO, ze := some [.nilFunc] }
def ti236 : TInfo := { ty := xO, ze := some [.nilFunc] }
def ti237 : TInfo := { ty := xO, ze := some [.nilFunc] }
def ti238 : TInfo := { ty := xO, ze := some [.nilFunc] }
def ti239 : TInfo := { ty := xO, ze := some [.nilFunc] }
def ti240 : TInfo := { ty := xO, ze := some [.nilFunc] }
def ti242 : TInfo := { ty := xO, ze := some [.nilFunc] }
def ti243 : TInfo := { ty := xO, ze := some [.int .u16 0], ik := some .u16 }
def ti244 : TInfo := { ty := xO, ze := some [.map none], mp := some (TypeDesc.tuple { toList := [] }, vI), kv := some ((sI).pr (sI), sI) }
def ti245 : TInfo := { ty := xO, ze := some [.nilFunc] }
def ti246 : TInfo := { ty := xO, ze := some [.nilFunc] }
def ti247 : TInfo := { ty := xO, ze := some [.nilFunc] }
def ti248 : TInfo := { ty := xO, ze := some [.nilFunc] }
def ti249 : TInfo := { ty := xO, ze := some [.nilFunc] }
def ti250 : TInfo := { ty := xO, ze := some [.nilFunc] }
def ti251 : TInfo := { ty := xO, ze := some [.nilFunc] }
def ti252 : TInfo := { ty := xO, ze := some [.nilFunc] }
def ti253 : TInfo := { ty := xO, ze := some [.pointer none] }
def ti254 : TInfo := { ty := xO, ze := some [.nilFunc] }
def ti255 : TInfo := { ty := some (true, 8), fd := [(0, true, 2), (2, true, 5), (7, false, 1)], pl := some ([vI, vS, vB, vB, vI, vI, vI, vI], [(0, 2), (2, 5), (7, 1)]), ze := some [vI, vS, vB, vB, vI, vI, vI, vI] }
def ti256 : TInfo := { ty := some (true, 8), fd := [(0, true, 2), (2, true, 5), (7, false, 1)], pl := some ([vI, vS, vB, vB, vI, vI, vI, vI], [(0, 2), (2, 5), (7, 1)]), ze := some [vI, vS, vB, vB, vI, vI, vI, vI] }
def ti257 : TInfo := { ty := xO, ze := some [.nilFunc] }
def ti258 : TInfo := { ty := xO, ze := some [.nilFunc] }
def ti259 : TInfo := { ty := xO, ze := some [.nilFunc] }
def ti260 : TInfo := { ty := xO, ze := some [.nilFunc] }
def ti261 : TInfo := { ty := xO, ze := some [.nilFunc] }
def ti262 : TInfo := { ty := xO, el := some (92, 2, 32, [vI, vS]), slT := true, ze := some [vS], co := some ((sI).pr (sI).sl.sl) }
def ti263 : TInfo := { ty := xO, ze := some [.nilFunc] }
def ti264 : TInfo := { ty := xO, ze := some [.nilFunc] }
def ti266 : TInfo := { ty := xO, ze := some [.nilFunc] }
def ti267 : TInfo := { ty := xO, ze := some [.nilFunc] }
def ti268 : TInfo := { ty := xO, ze := some [.pointer none] }
def ti269 : TInfo := { ty := some (true, 3), fd := [(0, false, 1), (1, false, 1), (2, false, 1)], pl := some ([vS, .map none, .map none], [(0, 1), (1, 1), (2, 1)]), ze := some [vS, .map none, .map none] }
def ti270 : TInfo := { ty := some (true, 3), fd := [(0, false, 1), (1, false, 1), (2, false, 1)], pl := some ([vS, .map none, .map none], [(0, 1), (1, 1), (2, 1)]), ze := some [vS, .map none, .map none] }
def ti272 : TInfo := { ty := xO, ze := some [.nilFunc] }
def ti273 : TInfo := { ty := xO, ze := some [.pointer none] }
def ti274 : TInfo := { ty := some (true, 11), fd := [(0, true, 7), (7, true, 4)], pl := some ([vS, vI, vS, vS, vB, vI, vI, vI, vI, vI, vB], [(0, 7), (7, 4)]), ze := some [vS, vI, vS, vS, vB, vI, vI, vI, vI, vI, vB] }
def ti275 : TInfo := { ty := some (true, 11), fd := [(0, true, 7), (7, true, 4)], pl := some ([vS, vI, vS, vS, vB, vI, vI, vI, vI, vI, vB], [(0, 7), (7, 4)]), ze := some [vS, vI, vS, vS, vB, vI, vI, vI, vI, vI, vB] }
def ti276 : TInfo := { ty := xO, ze := some [.nilFunc] }
def ti277 : TInfo := { ty := xO, ze := some [.nilFunc] }
def ti278 : TInfo := { ty := xO, ze := some [.nilFunc] }
def ti279 : TInfo := { ty := xO, ze := some [.nilFunc] }
def ti280 : TInfo := { ty := xO, ze := some [.nilFunc] }
def ti281 : TInfo := { ty := xO, ze := some [.nilFunc] }
def ti282 : TInfo := { ty := xO, ze := some [.nilFunc] }
def ti283 : TInfo := { ty := xO, ze := some [.nilFunc] }
def ti284 : TInfo := { ty := xO, ze := some [.nilFunc] }
def ti285 : TInfo := { ty := xO, ze := some [.nilFunc] }
def ti286 : TInfo := { ty := xO, ze := some [.nilFunc] }
def ti287 : TInfo := { ty := xO, ze := some [.nilFunc] }
def ti288 : TInfo := { ty := xO, ze := some [.nilFunc] }
def ti289 : TInfo := { ty := xO, ze := some [.nilFunc] }
def ti291 : TInfo := { ty := xO, ze := some [.nilFunc] }
def ti292 : TInfo := { ty := xO, ze := some [.nilFunc] }
def ti293 : TInfo := { ty := xO, ze := some [.nilFunc] }
def ti294 : TInfo := { ty := xO, ze := some [.nilFunc] }
def ti295 : TInfo := { ty := xO, ze := some [.nilFunc] }
def ti296 : TInfo := { ty := xO, ze := some [vI], ik := some .i64 }
def ti298 : TInfo := { ty := xO, ze := some [.nilFunc] }
def ti299 : TInfo := { ty := xO, ze := some [.nilFunc] }
def ti300 : TInfo := { ty := xO, ze := some [.nilFunc] }
def ti301 : TInfo := { ty := xO, ze := some [.nilFunc] }
def ti302 : TInfo := { ty := xO, ze := some [.nilFunc] }
def ti303 : TInfo := { ty := xO, ze := some [.int .u64 0], ik := some .u64 }
def ti304 : TInfo := { ty := xO, ze := some [.nilFunc] }
def ti305 : TInfo := { ty := xO, el := some (59, 1, 24, [vS]), slT := true, ze := some [vS], co := some ((sI).pr ((sI).pr ((sI).pr Sc.b))).sl }
def ti306 : TInfo := { ty := xO, ze := some [.nilFunc] }
def ti307 : TInfo := { ty := xO, ze := some [.nilFunc] }
def ti308 : TInfo := { ty := xO, ze := some [.nilFunc] }
def ti309 : TInfo := { ty := xO, el := some (310, 1, 8, [.pointer none]), slT := true, ze := some [vS] }
def ti310 : TInfo := { ty := xO, ze := some [.pointer none] }
def ti311 : TInfo := { ty := xO, ze := some [.nilFunc] }
def ti312 : TInfo := { ty := xO, ze := some [.nilFunc] }
def ti314 : TInfo := { ty := xO, ze := some [.nilFunc] }
def ti316 : TInfo := { ty := xO, ze := some [.nilFunc] }
def ti317 : TInfo := { ty := xO, el := some (3, 1, 8, [vI]), slT := true, ze := some [vS], co := some (sI) }
def ti319 : TInfo := { ty := xO, ze := some [.nilFunc] }
def ti320 : TInfo := { ty := xO, ze := some [.nilFunc] }
def ti321 : TInfo := { ty := some (true, 32), ar := some (32, 5, 1), pl := some ([.int .u8 0, .int .u8 0, .int .u8 0, .int .u8 0, .int .u8 0, .int .u8 0, .int .u8 0, .int .u8 0, .int .u8 0, .int .u8 0, .int .u8 0, .int .u8 0, .int .u8 0, .int .u8 0, .int .u8 0, .int .u8 0, .int .u8 0, .int .u8 0, .int .u8 0, .int .u8 0, .int .u8 0, .int .u8 0, .int .u8 0, .int .u8 0, .int .u8 0, .int .u8 0, .int .u8 0, .int .u8 0, .int .u8 0, .int .u8 0, .int .u8 0, .int .u8 0], [(0, 1), (1, 1), (2, 1), (3, 1), (4, 1), (5, 1), (6, 1), (7, 1), (8, 1), (9, 1), (10, 1), (11, 1), (12, 1), (13, 1), (14, 1), (15, 1), (16, 1), (17, 1), (18, 1), (19, 1), (20, 1), (21, 1), (22, 1), (23, 1), (24, 1), (25, 1), (26, 1), (27, 1), (28, 1), (29, 1), (30, 1), (31, 1)]), ze := some [.int .u8 0, .int .u8 0, .int .u8 0, .int .u8 0, .int .u8 0, .int .u8 0, .int .u8 0, .int .u8 0, .int .u8 0, .int .u8 0, .int .u8 0, .int .u8 0, .int .u8 0, .int .u8 0, .int .u8 0, .int .u8 0, .int .u8 0, .int .u8 0, .int .u8 0, .int .u8 0, .int .u8 0, .int .u8 0, .int .u8 0, .int .u8 0, .int .u8 0, .int .u8 0, .int .u8 0, .int .u8 0, .int .u8 0, .int .u8 0, .int .u8 0, .int .u8 0], co := some (Sc.i .u8) }
def ti322 : TInfo := { ty := xO, ze := some [.nilFunc] }
def ti323 : TInfo := { ty := xO, ze := some [.nilFunc] }
def ti325 : TInfo := { ty := xO, ze := some [.nilFunc] }
def ti326 : TInfo := { ty := xO, ze := some [.nilFunc] }
def ti327 : TInfo := { ty := xO, ze := some [.nilFunc] }
def ti328 : TInfo := { ty := xO, ze := some [.nilFunc] }
def ti329 : TInfo := { ty := xO, ze := some [.nilFunc] }
def ti330 : TInfo := { ty := xO, ze := some [.nilFunc] }
def ti331 : TInfo := { ty := xO, ze := some [.nilFunc] }
def ti332 : TInfo := { ty := xO, ze := some [.nilFunc] }
def ti333 : TInfo := { ty := xO, ze := some [.nilFunc] }
def ti335 : TInfo := { ty := xO, ze := some [.nilFunc] }
def ti336 : TInfo := { ty := xO, ze := some [.nilFunc] }
def ti337 : TInfo := { ty := xO, ze := some [.nilFunc] }
def ti338 : TInfo := { ty := xO, ze := some [.nilFunc] }
def ti339 : TInfo := { ty := xO, ze := some [.nilFunc] }
def ti340 : TInfo := { ty := xO, ze := some [.nilFunc] }
def ti341 : TInfo := { ty := xO, ze := some [.nilFunc] }
def ti342 : TInfo := { ty := xO, ze := some [.nilFunc] }
def ti343 : TInfo := { ty := xO, ze := some [.nilFunc] }
def ti344 : TInfo := { ty := xO, ze := some [.int .u64 0], ik := some .u64 }
def ti345 : TInfo := { ty := xO, ze := some [.nilFunc] }
def ti346 : TInfo := { ty := xO, ze := some [.nilFunc] }
def ti347 : TInfo := { ty := xO, ze := some [.nilFunc] }
def ti348 : TInfo := { ty := xO, ze := some [.pointer none] }
def ti349 : TInfo := { ty := xO, ze := some [.nilFunc] }
def ti350 : TInfo := { ty := xO, ze := some [.nilFunc] }
def ti351 : TInfo := { ty := xO, ze := some [.nilFunc] }
def ti352 : TInfo := { ty := xO, ze := some [.nilFunc] }
def ti353 : TInfo := { ty := xO, ze := some [.nilFunc] }
def ti354 : TInfo := { ty := xO, ze := some [.nilFunc] }
def ti355 : TInfo := { ty := xO, ze := some [.nilFunc] }
def ti356 : TInfo := { ty := xO, ze := some [.nilFunc] }
def ti357 : TInfo := { ty := xO, ze := some [.nilFunc] }
def ti358 : TInfo := { ty := xO, ze := some [.nilFunc] }
def ti359 : TInfo := { ty := xO, ze := some [.nilFunc] }
def ti360 : TInfo := { ty := xO, ze := some [.nilFunc] }
def ti361 : TInfo := { ty := xO, ze := some [.nilFunc] }
def ti362 : TInfo := { ty := xO, ze := some [.nilFunc] }
def ti363 : TInfo := { ty := xO, ze := some [.nilFunc] }
def ti364 : TInfo := { ty := xO, ze := some [.nilFunc] }
def ti365 : TInfo := { ty := xO, ze := some [.nilFunc] }
def ti366 : TInfo := { ty := xO, ze := some [.nilFunc] }
def ti367 : TInfo := { ty := xO, ze := some [.nilFunc] }
def ti368 : TInfo := { ty := xO, ze := some [.nilFunc] }
def ti369 : TInfo := { ty := xO, ze := some [.nilFunc] }
def ti370 : TInfo := { ty := xO, ze := some [.pointer none] }
def ti371 : TInfo := { ty := xO, ze := some [.nilFunc] }
def ti372 : TInfo := { ty := xO, ze := some [.nilFunc] }
def ti373 : TInfo := { ty := xO, ze := some [.nilFunc] }
def ti374 : TInfo := { ty := xO, ze := some [.nilFunc] }
def ti375 : TInfo := { ty := xO, ze := some [.pointer none] }
def ti376 : TInfo := { ty := xO, ze := some [.nilFunc] }
def ti377 : TInfo := { ty := xO, ze := some [.nilFunc] }
def ti379 : TInfo := { ty := xO, ze := some [.nilFunc] }
def ti380 : TInfo := { ty := xO, ze := some [.nilFunc] }
def ti381 : TInfo := { ty := xO, ze := some [.nilFunc] }
def ti382 : TInfo := { ty := xO, ze := some [.nilFunc] }
def ti383 : TInfo := { ty := xO, ze := some [.nilFunc] }
def ti384 : TInfo := { ty := xO, ze := some [.nilFunc] }
def ti385 : TInfo := { ty := xO, ze := some [.nilFunc] }
def ti386 : TInfo := { ty := xO, ze := some [.nilFunc] }
def ti387 : TInfo := { ty := xO, ze := some [.nilFunc] }
def ti388 : TInfo := { ty := xO, ze := some [.nilFunc] }
def ti389 : TInfo := { ty := xO, ze := some [.nilFunc] }
def ti390 : TInfo := { ty := xO, ze := some [.nilFunc] }
def ti391 : TInfo := { ty := xO, ze := some [.nilFunc] }
def ti392 : TInfo := { ty := xO, ze := some [.nilFunc] }
def ti393 : TInfo := { ty := xO, ze := some [.nilFunc] }
def ti394 : TInfo := { ty := xO, ze := some [.nilFunc] }
def ti395 : TInfo := { ty := xO, ze := some [.nilFunc] }
def ti396 : TInfo := { ty := xO, ze := some [.nilFunc] }
def ti397 : TInfo := { ty := xO, ze := some [.nilFunc] }
def ti398 : TInfo := { ty := xO, ze := some [.nilFunc] }
def ti399 : TInfo := { ty := xO, ze := some [.nilFunc] }
def ti402 : TInfo := { ty := some (true, 0), ar := some (0, 16, 1), pl := some ([], []), ze := some [] }
def ti403 : TInfo := { ty := some (true, 0), fd := [(0, true, 0)], pl := some ([], [(0, 0)]), ze := some [] }
def ti404 : TInfo := { ty := some (true, 0), fd := [(0, true, 0)], pl := some ([], [(0, 0)]), ze := some [] }
def ti405 : TInfo := { ty := xO, ze := some [.int .u8 0], ik := some .u8 }
def ti406 : TInfo := { ty := xO, ze := some [.int .u8 0], ik := some .u8 }
def ti407 : TInfo := { ty := xO, ze := some [.nilFunc] }
def ti408 : TInfo := { ty := xO, ze := some [.pointer none] }
def ti409 : TInfo := { ty := xO, ze := some [.int .i32 0], ik := some .i32 }
def ti410 : TInfo := { ty := xO, ze := some [.int .i32 0], ik := some .i32 }
def ti411 : TInfo := { ty := some (true, 11), fd := [(0, false, 1), (1, false, 1), (2, false, 1), (3, false, 1), (4, false, 1), (5, false, 1), (6, false, 1), (7, false, 1), (8, false, 1), (9, false, 1), (10, false, 1)], pl := some ([.int .u64 0, .int .u64 0, .int .u32 0, .int .u8 0, .int .u8 0, .int .u8 0, .int .u8 0, .nilFunc, .pointer none, .int .i32 0, .int .i32 0], [(0, 1), (1, 1), (2, 1), (3, 1), (4, 1), (5, 1), (6, 1), (7, 1), (8, 1), (9, 1), (10, 1)]), ze := some [.int .u64 0, .int .u64 0, .int .u32 0, .int .u8 0, .int .u8 0, .int .u8 0, .int .u8 0, .nilFunc, .pointer none, .int .i32 0, .int .i32 0] }
def ti412 : TInfo := { ty := some (true, 11), fd := [(0, false, 1), (1, false, 1), (2, false, 1), (3, false, 1), (4, false, 1), (5, false, 1), (6, false, 1), (7, false, 1), (8, false, 1), (9, false, 1), (10, false, 1)], pl := some ([.int .u64 0, .int .u64 0, .int .u32 0, .int .u8 0, .int .u8 0, .int .u8 0, .int .u8 0, .nilFunc, .pointer none, .int .i32 0, .int .i32 0], [(0, 1), (1, 1), (2, 1), (3, 1), (4, 1), (5, 1), (6, 1), (7, 1), (8, 1), (9, 1), (10, 1)]), ze := some [.int .u64 0, .int .u64 0, .int .u32 0, .int .u8 0, .int .u8 0, .int .u8 0, .int .u8 0, .nilFunc, .pointer none, .int .i32 0, .int .i32 0] }
def ti413 : TInfo := { ty := xO, ze := some [.pointer none] }
def tiL : List (TypeId × TInfo) := [(1, ti1), (2, ti2), (3, ti3), (4, ti4), (5, ti5), (6, ti6), (7, ti7), (8, ti8), (9, ti9), (10, ti10), (11, ti11), (12, ti12), (15, ti15), (16, ti16), (17, ti17), (18, ti18), (19, ti19), (20, ti20), (21, ti21), (22, ti22), (23, ti23), (24, ti24), (25, ti25), (26, ti26), (27, ti27), (28, ti28), (29, ti29), (30, ti30), (31, ti31), (32, ti32), (33, ti33), (35, ti35), (36, ti36), (38, ti38), (39, ti39), (40, ti40), (42, ti42), (43, ti43), (44, ti44), (45, ti45), (46, ti46), (47, ti47), (48, ti48), (49, ti49), (50, ti50), (51, ti51), (52, ti52), (53, ti53), (54, ti54), (55, ti55), (56, ti56), (58, ti58), (59, ti59), (60, ti60), (61, ti61), (62, ti62), (63, ti63), (65, ti65), (66, ti66), (68, ti68), (69, ti69), (70, ti70), (71, ti71), (72, ti72), (73, ti73), (74, ti74), (76, ti76), (77, ti77), (79, ti79), (80, ti80), (81, ti81), (83, ti83), (84, ti84), (85, ti85), (86, ti86), (88, ti88), (90, ti90), (91, ti91), (92, ti92), (94, ti94), (95, ti95), (96, ti96), (97, ti97), (98, ti98), (99, ti99), (101, ti101), (103, ti103), (104, ti104), (105, ti105), (107, ti107), (109, ti109), (111, ti111), (112, ti112), (114, ti114), (116, ti116), (117, ti117), (118, ti118), (119, ti119), (120, ti120), (121, ti121), (122, ti122), (123, ti123), (124, ti124), (125, ti125), (126, ti126), (127, ti127), (128, ti128), (129, ti129), (130, ti130), (131, ti131), (132, ti132), (133, ti133), (134, ti134), (135, ti135), (136, ti136), (137, ti137), (138, ti138), (140, ti140), (142, ti142), (143, ti143), (145, ti145), (147, ti147), (148, ti148), (149, ti149), (150, ti150), (151, ti151), (152, ti152), (153, ti153), (155, ti155), (156, ti156), (157, ti157), (158, ti158), (159, ti159), (160, ti160), (161, ti161), (162, ti162), (163, ti163), (164, ti164), (165, ti165), (166, ti166), (167, ti167), (168, ti168), (169, ti169), (171, ti171), (172, ti172), (173, ti173), (174, ti174), (176, ti176), (178, ti178), (179, ti179), (181, ti181), (182, ti182), (184, ti184), (185, ti185), (186, ti186), (187, ti187), (188, ti188), (189, ti189), (190, ti190), (192, ti192), (193, ti193), (194, ti194), (195, ti195), (196, ti196), (197, ti197), (198, ti198), (199, ti199), (200, ti200), (201, ti201), (202, ti202), (203, ti203), (204, ti204), (206, ti206), (207, ti207), (208, ti208), (209, ti209), (210, ti210), (211, ti211), (212, ti212), (213, ti213), (214, ti214), (215, ti215), (216, ti216), (217, ti217), (218, ti218), (219, ti219), (221, ti221), (222, ti222), (223, ti223), (224, ti224), (225, ti225), (226, ti226), (227, ti227), (228, ti228), (229, ti229), (230, ti230), (231, ti231), (232, ti232), (233, ti233), (234, ti234), (236, ti236), (237, ti237), (238, ti238), (239, ti239), (240, ti240), (242, ti242), (243, ti243), (244, ti244), (245, ti245), (246, ti246), (247, ti247), (248, ti248), (249, ti249), (250, ti250), (251, ti251), (252, ti252), (253, ti253), (254, ti254), (255, ti255), (256, ti256), (257, ti257), (258, ti258), (259, ti259), (260, ti260), (261, ti261), (262, ti262), (263, ti263), (264, ti264), (266, ti266), (267, ti267), (268, ti268), (269, ti269), (270, ti270), (272, ti272), (273, ti273), (274, ti274), (275, ti275), (276, ti276), (277, ti277), (278, ti278), (279, ti279), (280, ti280), (281, ti281), (282, ti282), (283, ti283), (284, ti284), (285, ti285), (286, ti286), (287, ti287), (288, ti288), (289, ti289), (291, ti291), (292, ti292), (293, ti293), (294, ti294), (295, ti295), (296, ti296), (298, ti298), (299, ti299), (300, ti300), (301, ti301), (302, ti302), (303, ti303), (304, ti304), (305, ti305), (306, ti306), (307, ti307), (308, ti308), (309, ti309), (310, ti310), (311, ti311), (312, ti312), (314, ti314), (316, ti316), (317, ti317), (319, ti319), (320, ti320), (321, ti321), (322, ti322), (323, ti323), (325, ti325), (326, ti326), (327, ti327), (328, ti328), (329, ti329), (330, ti330), (331, ti331), (332, ti332), (333, ti333), (335, ti335), (336, ti336), (337, ti337), (338, ti338), (339, ti339), (340, ti340), (341, ti341), (342, ti342), (343, ti343), (344, ti344), (345, ti345), (346, ti346), (347, ti347), (348, ti348), (349, ti349), (350, ti350), (351, ti351), (352, ti352), (353, ti353), (354, ti354), (355, ti355), (356, ti356), (357, ti357), (358, ti358), (359, ti359), (360, ti360), (361, ti361), (362, ti362), (363, ti363), (364, ti364), (365, ti365), (366, ti366), (367, ti367), (368, ti368), (369, ti369), (370, ti370), (371, ti371), (372, ti372), (373, ti373), (374, ti374), (375, ti375), (376, ti376), (377, ti377), (379, ti379), (380, ti380), (381, ti381), (382, ti382), (383, ti383), (384, ti384), (385, ti385), (386, ti386), (387, ti387), (388, ti388), (389, ti389), (390, ti390), (391, ti391), (392, ti392), (393, ti393), (394, ti394), (395, ti395), (396, ti396), (397, ti397), (398, ti398), (399, ti399), (402, ti402), (403, ti403), (404, ti404), (405, ti405), (406, ti406), (407, ti407), (408, ti408), (409, ti409), (410, ti410), (411, ti411), (412, ti412), (413, ti413)]
theorem tg {P : Program} {t : TypeId} {i : TInfo} (h : (tyA P t, elA P t, slT P t, boB P t, arA P t, (List.range i.fd.length).map (fdA P t), (match i.pl with
 | some (_, l) => plF P t l.length
 | none => none), zeroA P t, mapA P t, ikF P t, (match i.eq with
 | some s => eqB P t s
 | none => true), sgB P t, nfB P t, (match i.zv with | some _ => zvT P t | none => none)) = (i.ty, i.el, i.slT, i.bo, i.ar, i.fd.map some, i.pl.map (fun p => (p.1, p.2.map some)), i.ze, i.mp, i.ik, true, i.sg, i.nf, i.zv)) : TGood P t i := by
 simp only [Prod.mk.injEq] at h
 obtain ⟨h1, h2, h3, h4, h5, h6, h7, h8, h9, h10, h11, h12, h13, h14⟩ := h
 exact ⟨of_kr h1, of_kr h2, of_kb h3, of_kbo h4, of_kr h5, of_kfd h6, of_kpl h7, of_kr h8, of_kr h9, of_kik h10, of_keq h11, of_ksg h12, of_knf h13, of_kzv h14⟩
theorem tiok1 : TGood Tryz.prog 1 ti1 := tg (by kernel_rfl)
theorem tiok2 : TGood Tryz.prog 2 ti2 := tg (by kernel_rfl)
theorem tiok3 : TGood Tryz.prog 3 ti3 := tg (by kernel_rfl)
theorem tiok4 : TGood Tryz.prog 4 ti4 := tg (by kernel_rfl)
theorem tiok5 : TGood Tryz.prog 5 ti5 := tg (by kernel_rfl)
theorem tiok6 : TGood Tryz.prog 6 ti6 := tg (by kernel_rfl)
theorem tiok7 : TGood Tryz.prog 7 ti7 := tg (by kernel_rfl)
theorem tiok8 : TGood Tryz.prog 8 ti8 := tg (by kernel_rfl)
theorem tiok9 : TGood Tryz.prog 9 ti9 := tgood_str (by kernel_rfl)
theorem tiok10 : TGood Tryz.prog 10 ti10 := tgood_str (by kernel_rfl)
theorem tiok11 : TGood Tryz.prog 11 ti11 := tgood_str (by kernel_rfl)
theorem tiok12 : TGood Tryz.prog 12 ti12 := tg (by kernel_rfl)
theorem tiok15 : TGood Tryz.prog 15 ti15 := tg (by kernel_rfl)
theorem tiok16 : TGood Tryz.prog 16 ti16 := tg (by kernel_rfl)
theorem tiok17 : TGood Tryz.prog 17 ti17 := tg (by kernel_rfl)
theorem tiok18 : TGood Tryz.prog 18 ti18 := tg (by kernel_rfl)
theorem tiok19 : TGood Tryz.prog 19 ti19 := tg (by kernel_rfl)
theorem tiok20 : TGood Tryz.prog 20 ti20 := tgood_nf (by kernel_rfl)
theorem tiok21 : TGood Tryz.prog 21 ti21 := tg (by kernel_rfl)
theorem tiok22 : TGood Tryz.prog 22 ti22 := tg (by kernel_rfl)
theorem tiok23 : TGood Tryz.prog 23 ti23 := tg (by kernel_rfl)
theorem tiok24 : TGood Tryz.prog 24 ti24 := tg (by kernel_rfl)
theorem tiok25 : TGood Tryz.prog 25 ti25 := tg (by kernel_rfl)
theorem tiok26 : TGood Tryz.prog 26 ti26 := tg (by kernel_rfl)
theorem tiok27 : TGood Tryz.prog 27 ti27 := tg (by kernel_rfl)
theorem tiok28 : TGood Tryz.prog 28 ti28 := tg (by kernel_rfl)
theorem tiok29 : TGood Tryz.prog 29 ti29 := tg (by kernel_rfl)
theorem tiok30 : TGood Tryz.prog 30 ti30 := tg (by kernel_rfl)
theorem tiok31 : TGood Tryz.prog 31 ti31 := tg (by kernel_rfl)
theorem tiok32 : TGood Tryz.prog 32 ti32 := tg (by kernel_rfl)
theorem tiok33 : TGood Tryz.prog 33 ti33 := tg (by kernel_rfl)
theorem tiok35 : TGood Tryz.prog 35 ti35 := tg (by kernel_rfl)
theorem tiok36 : TGood Tryz.prog 36 ti36 := tg (by kernel_rfl)
theorem tiok38 : TGood Tryz.prog 38 ti38 := tg (by kernel_rfl)
theorem tiok39 : TGood Tryz.prog 39 ti39 := tg (by kernel_rfl)
theorem tiok40 : TGood Tryz.prog 40 ti40 := tg (by kernel_rfl)
theorem tiok42 : TGood Tryz.prog 42 ti42 := tg (by kernel_rfl)
theorem tiok43 : TGood Tryz.prog 43 ti43 := tg (by kernel_rfl)
theorem tiok44 : TGood Tryz.prog 44 ti44 := tg (by kernel_rfl)
theorem tiok45 : TGood Tryz.prog 45 ti45 := tg (by kernel_rfl)
theorem tiok46 : TGood Tryz.prog 46 ti46 := tg (by kernel_rfl)
theorem tiok47 : TGood Tryz.prog 47 ti47 := tg (by kernel_rfl)
theorem tiok48 : TGood Tryz.prog 48 ti48 := tg (by kernel_rfl)
theorem tiok49 : TGood Tryz.prog 49 ti49 := tg (by kernel_rfl)
theorem tiok50 : TGood Tryz.prog 50 ti50 := tg (by kernel_rfl)
theorem tiok51 : TGood Tryz.prog 51 ti51 := tg (by kernel_rfl)
theorem tiok52 : TGood Tryz.prog 52 ti52 := tg (by kernel_rfl)
theorem tiok53 : TGood Tryz.prog 53 ti53 := tg (by kernel_rfl)
theorem tiok54 : TGood Tryz.prog 54 ti54 := tg (by kernel_rfl)
theorem tiok55 : TGood Tryz.prog 55 ti55 := tg (by kernel_rfl)
theorem tiok56 : TGood Tryz.prog 56 ti56 := tg (by kernel_rfl)
theorem tiok58 : TGood Tryz.prog 58 ti58 := tg (by kernel_rfl)
theorem tiok59 : TGood Tryz.prog 59 ti59 := tg (by kernel_rfl)
theorem tiok60 : TGood Tryz.prog 60 ti60 := tg (by kernel_rfl)
theorem tiok61 : TGood Tryz.prog 61 ti61 := tg (by kernel_rfl)
theorem tiok62 : TGood Tryz.prog 62 ti62 := tg (by kernel_rfl)
theorem tiok63 : TGood Tryz.prog 63 ti63 := tg (by kernel_rfl)
theorem tiok65 : TGood Tryz.prog 65 ti65 := tg (by kernel_rfl)
theorem tiok66 : TGood Tryz.prog 66 ti66 := tg (by kernel_rfl)
theorem tiok68 : TGood Tryz.prog 68 ti68 := tg (by kernel_rfl)
theorem tiok69 : TGood Tryz.prog 69 ti69 := tg (by kernel_rfl)
theorem tiok70 : TGood Tryz.prog 70 ti70 := tg (by kernel_rfl)
theorem tiok71 : TGood Tryz.prog 71 ti71 := tg (by kernel_rfl)
theorem tiok72 : TGood Tryz.prog 72 ti72 := tg (by kernel_rfl)
theorem tiok73 : TGood Tryz.prog 73 ti73 := tg (by kernel_rfl)
theorem tiok74 : TGood Tryz.prog 74 ti74 := tg (by kernel_rfl)
theorem tiok76 : TGood Tryz.prog 76 ti76 := tg (by kernel_rfl)
theorem tiok77 : TGood Tryz.prog 77 ti77 := tg (by kernel_rfl)
theorem tiok79 : TGood Tryz.prog 79 ti79 := tg (by kernel_rfl)
theorem tiok80 : TGood Tryz.prog 80 ti80 := tg (by kernel_rfl)
theorem tiok81 : TGood Tryz.prog 81 ti81 := tg (by kernel_rfl)
theorem tiok83 : TGood Tryz.prog 83 ti83 := tg (by kernel_rfl)
theorem tiok84 : TGood Tryz.prog 84 ti84 := tg (by kernel_rfl)
theorem tiok85 : TGood Tryz.prog 85 ti85 := tg (by kernel_rfl)
theorem tiok86 : TGood Tryz.prog 86 ti86 := tg (by kernel_rfl)
theorem tiok88 : TGood Tryz.prog 88 ti88 := tg (by kernel_rfl)
theorem tiok90 : TGood Tryz.prog 90 ti90 := tg (by kernel_rfl)
theorem tiok91 : TGood Tryz.prog 91 ti91 := tg (by kernel_rfl)
theorem tiok92 : TGood Tryz.prog 92 ti92 := tg (by kernel_rfl)
theorem tiok94 : TGood Tryz.prog 94 ti94 := tg (by kernel_rfl)
theorem tiok95 : TGood Tryz.prog 95 ti95 := tg (by kernel_rfl)
theorem tiok96 : TGood Tryz.prog 96 ti96 := tg (by kernel_rfl)
theorem tiok97 : TGood Tryz.prog 97 ti97 := tg (by kernel_rfl)
theorem tiok98 : TGood Tryz.prog 98 ti98 := tg (by kernel_rfl)
theorem tiok99 : TGood Tryz.prog 99 ti99 := tg (by kernel_rfl)
theorem tiok101 : TGood Tryz.prog 101 ti101 := tg (by kernel_rfl)
theorem tiok103 : TGood Tryz.prog 103 ti103 := tg (by kernel_rfl)
theorem tiok104 : TGood Tryz.prog 104 ti104 := tg (by kernel_rfl)
theorem tiok105 : TGood Tryz.prog 105 ti105 := tg (by kernel_rfl)
theorem tiok107 : TGood Tryz.prog 107 ti107 := tg (by kernel_rfl)
theorem tiok109 : TGood Tryz.prog 109 ti109 := tg (by kernel_rfl)
theorem tiok111 : TGood Tryz.prog 111 ti111 := tg (by kernel_rfl)
theorem tiok112 : TGood Tryz.prog 112 ti112 := tg (by kernel_rfl)
theorem tiok114 : TGood Tryz.prog 114 ti114 := tg (by kernel_rfl)
theorem tiok116 : TGood Tryz.prog 116 ti116 := tg (by kernel_rfl)
theorem tiok117 : TGood Tryz.prog 117 ti117 := tg (by kernel_rfl)
theorem tiok118 : TGood Tryz.prog 118 ti118 := tg (by kernel_rfl)
theorem tiok119 : TGood Tryz.prog 119 ti119 := tg (by kernel_rfl)
theorem tiok120 : TGood Tryz.prog 120 ti120 := tg (by kernel_rfl)
theorem tiok121 : TGood Tryz.prog 121 ti121 := tg (by kernel_rfl)
theorem tiok122 : TGood Tryz.prog 122 ti122 := tg (by kernel_rfl)
theorem tiok123 : TGood Tryz.prog 123 ti123 := tg (by kernel_rfl)
theorem tiok124 : TGood Tryz.prog 124 ti124 := tg (by kernel_rfl)
theorem tiok125 : TGood Tryz.prog 125 ti125 := tg (by kernel_rfl)
theorem tiok126 : TGood Tryz.prog 126 ti126 := tg (by kernel_rfl)
theorem tiok127 : TGood Tryz.prog 127 ti127 := tg (by kernel_rfl)
theorem tiok128 : TGood Tryz.prog 128 ti128 := tg (by kernel_rfl)
theorem tiok129 : TGood Tryz.prog 129 ti129 := tg (by kernel_rfl)
theorem tiok130 : TGood Tryz.prog 130 ti130 := tg (by kernel_rfl)
theorem tiok131 : TGood Tryz.prog 131 ti131 := tg (by kernel_rfl)
theorem tiok132 : TGood Tryz.prog 132 ti132 := tg (by kernel_rfl)
theorem tiok133 : TGood Tryz.prog 133 ti133 := tg (by kernel_rfl)
theorem tiok134 : TGood Tryz.prog 134 ti134 := tg (by kernel_rfl)
theorem tiok135 : TGood Tryz.prog 135 ti135 := tg (by kernel_rfl)
theorem tiok136 : TGood Tryz.prog 136 ti136 := tg (by kernel_rfl)
theorem tiok137 : TGood Tryz.prog 137 ti137 := tg (by kernel_rfl)
theorem tiok138 : TGood Tryz.prog 138 ti138 := tg (by kernel_rfl)
theorem tiok140 : TGood Tryz.prog 140 ti140 := tg (by kernel_rfl)
theorem tiok142 : TGood Tryz.prog 142 ti142 := tg (by kernel_rfl)
theorem tiok143 : TGood Tryz.prog 143 ti143 := tg (by kernel_rfl)
theorem tiok145 : TGood Tryz.prog 145 ti145 := tg (by kernel_rfl)
theorem tiok147 : TGood Tryz.prog 147 ti147 := tg (by kernel_rfl)
theorem tiok148 : TGood Tryz.prog 148 ti148 := tg (by kernel_rfl)
theorem tiok149 : TGood Tryz.prog 149 ti149 := tg (by kernel_rfl)
theorem tiok150 : TGood Tryz.prog 150 ti150 := tg (by kernel_rfl)
theorem tiok151 : TGood Tryz.prog 151 ti151 := tg (by kernel_rfl)
theorem tiok152 : TGood Tryz.prog 152 ti152 := tg (by kernel_rfl)
theorem tiok153 : TGood Tryz.prog 153 ti153 := tg (by kernel_rfl)
theorem tiok155 : TGood Tryz.prog 155 ti155 := tg (by kernel_rfl)
theorem tiok156 : TGood Tryz.prog 156 ti156 := tg (by kernel_rfl)
theorem tiok157 : TGood Tryz.prog 157 ti157 := tg (by kernel_rfl)
theorem tiok158 : TGood Tryz.prog 158 ti158 := tg (by kernel_rfl)
theorem tiok159 : TGood Tryz.prog 159 ti159 := tg (by kernel_rfl)
theorem tiok160 : TGood Tryz.prog 160 ti160 := tg (by kernel_rfl)
theorem tiok161 : TGood Tryz.prog 161 ti161 := tg (by kernel_rfl)
theorem tiok162 : TGood Tryz.prog 162 ti162 := tg (by kernel_rfl)
theorem tiok163 : TGood Tryz.prog 163 ti163 := tg (by kernel_rfl)
theorem tiok164 : TGood Tryz.prog 164 ti164 := tg (by kernel_rfl)
theorem tiok165 : TGood Tryz.prog 165 ti165 := tg (by kernel_rfl)
theorem tiok166 : TGood Tryz.prog 166 ti166 := tg (by kernel_rfl)
theorem tiok167 : TGood Tryz.prog 167 ti167 := tg (by kernel_rfl)
theorem tiok168 : TGood Tryz.prog 168 ti168 := tg (by kernel_rfl)
theorem tiok169 : TGood Tryz.prog 169 ti169 := tg (by kernel_rfl)
theorem tiok171 : TGood Tryz.prog 171 ti171 := tg (by kernel_rfl)
theorem tiok172 : TGood Tryz.prog 172 ti172 := tg (by kernel_rfl)
theorem tiok173 : TGood Tryz.prog 173 ti173 := tg (by kernel_rfl)
theorem tiok174 : TGood Tryz.prog 174 ti174 := tg (by kernel_rfl)
theorem tiok176 : TGood Tryz.prog 176 ti176 := tg (by kernel_rfl)
theorem tiok178 : TGood Tryz.prog 178 ti178 := tg (by kernel_rfl)
theorem tiok179 : TGood Tryz.prog 179 ti179 := tg (by kernel_rfl)
theorem tiok181 : TGood Tryz.prog 181 ti181 := tg (by kernel_rfl)
theorem tiok182 : TGood Tryz.prog 182 ti182 := tg (by kernel_rfl)
theorem tiok184 : TGood Tryz.prog 184 ti184 := tg (by kernel_rfl)
theorem tiok185 : TGood Tryz.prog 185 ti185 := tg (by kernel_rfl)
theorem tiok186 : TGood Tryz.prog 186 ti186 := tg (by kernel_rfl)
theorem tiok187 : TGood Tryz.prog 187 ti187 := tg (by kernel_rfl)
theorem tiok188 : TGood Tryz.prog 188 ti188 := tg (by kernel_rfl)
theorem tiok189 : TGood Tryz.prog 189 ti189 := tg (by kernel_rfl)
theorem tiok190 : TGood Tryz.prog 190 ti190 := tg (by kernel_rfl)
theorem tiok192 : TGood Tryz.prog 192 ti192 := tg (by kernel_rfl)
theorem tiok193 : TGood Tryz.prog 193 ti193 := tg (by kernel_rfl)
theorem tiok194 : TGood Tryz.prog 194 ti194 := tg (by kernel_rfl)
theorem tiok195 : TGood Tryz.prog 195 ti195 := tg (by kernel_rfl)
theorem tiok196 : TGood Tryz.prog 196 ti196 := tg (by kernel_rfl)
theorem tiok197 : TGood Tryz.prog 197 ti197 := tg (by kernel_rfl)
theorem tiok198 : TGood Tryz.prog 198 ti198 := tg (by kernel_rfl)
theorem tiok199 : TGood Tryz.prog 199 ti199 := tg (by kernel_rfl)
theorem tiok200 : TGood Tryz.prog 200 ti200 := tg (by kernel_rfl)
theorem tiok201 : TGood Tryz.prog 201 ti201 := tg (by kernel_rfl)
theorem tiok202 : TGood Tryz.prog 202 ti202 := tg (by kernel_rfl)
theorem tiok203 : TGood Tryz.prog 203 ti203 := tg (by kernel_rfl)
theorem tiok204 : TGood Tryz.prog 204 ti204 := tg (by kernel_rfl)
theorem tiok206 : TGood Tryz.prog 206 ti206 := tg (by kernel_rfl)
theorem tiok207 : TGood Tryz.prog 207 ti207 := tg (by kernel_rfl)
theorem tiok208 : TGood Tryz.prog 208 ti208 := tg (by kernel_rfl)
theorem tiok209 : TGood Tryz.prog 209 ti209 := tg (by kernel_rfl)
theorem tiok210 : TGood Tryz.prog 210 ti210 := tg (by kernel_rfl)
theorem tiok211 : TGood Tryz.prog 211 ti211 := tg (by kernel_rfl)
theorem tiok212 : TGood Tryz.prog 212 ti212 := tg (by kernel_rfl)
theorem tiok213 : TGood Tryz.prog 213 ti213 := tg (by kernel_rfl)
theorem tiok214 : TGood Tryz.prog 214 ti214 := tg (by kernel_rfl)
theorem tiok215 : TGood Tryz.prog 215 ti215 := tg (by kernel_rfl)
theorem tiok216 : TGood Tryz.prog 216 ti216 := tg (by kernel_rfl)
theorem tiok217 : TGood Tryz.prog 217 ti217 := tg (by kernel_rfl)
theorem tiok218 : TGood Tryz.prog 218 ti218 := tg (by kernel_rfl)
theorem tiok219 : TGood Tryz.prog 219 ti219 := tg (by kernel_rfl)
theorem tiok221 : TGood Tryz.prog 221 ti221 := tg (by kernel_rfl)
theorem tiok222 : TGood Tryz.prog 222 ti222 := tg (by kernel_rfl)
theorem tiok223 : TGood Tryz.prog 223 ti223 := tg (by kernel_rfl)
theorem tiok224 : TGood Tryz.prog 224 ti224 := tg (by kernel_rfl)
theorem tiok225 : TGood Tryz.prog 225 ti225 := tg (by kernel_rfl)
theorem tiok226 : TGood Tryz.prog 226 ti226 := tg (by kernel_rfl)
theorem tiok227 : TGood Tryz.prog 227 ti227 := tg (by kernel_rfl)
theorem tiok228 : TGood Tryz.prog 228 ti228 := tg (by kernel_rfl)
theorem tiok229 : TGood Tryz.prog 229 ti229 := tg (by kernel_rfl)
theorem tiok230 : TGood Tryz.prog 230 ti230 := tg (by kernel_rfl)
theorem tiok231 : TGood Tryz.prog 231 ti231 := tg (by kernel_rfl)
theorem tiok232 : TGood Tryz.prog 232 ti232 := tg (by kernel_rfl)
theorem tiok233 : TGood Tryz.prog 233 ti233 := tg (by kernel_rfl)
theorem tiok234 : TGood Tryz.prog 234 ti234 := tg (by kernel_rfl)
theorem tiok236 : TGood Tryz.prog 236 ti236 := tg (by kernel_rfl)
theorem tiok237 : TGood Tryz.prog 237 ti237 := tg (by kernel_rfl)
theorem tiok238 : TGood Tryz.prog 238 ti238 := tg (by kernel_rfl)
theorem tiok239 : TGood Tryz.prog 239 ti239 := tg (by kernel_rfl)
theorem tiok240 : TGood Tryz.prog 240 ti240 := tg (by kernel_rfl)
theorem tiok242 : TGood Tryz.prog 242 ti242 := tg (by kernel_rfl)
theorem tiok243 : TGood Tryz.prog 243 ti243 := tg (by kernel_rfl)
theorem tiok244 : TGood Tryz.prog 244 ti244 := tg (by kernel_rfl)
theorem tiok245 : TGood Tryz.prog 245 ti245 := tg (by kernel_rfl)
theorem tiok246 : TGood Tryz.prog 246 ti246 := tg (by kernel_rfl)
theorem tiok247 : TGood Tryz.prog 247 ti247 := tg (by kernel_rfl)
theorem tiok248 : TGood Tryz.prog 248 ti248 := tg (by kernel_rfl)
theorem tiok249 : TGood Tryz.prog 249 ti249 := tg (by kernel_rfl)
theorem tiok250 : TGood Tryz.prog 250 ti250 := tg (by kernel_rfl)
theorem tiok251 : TGood Tryz.prog 251 ti251 := tg (by kernel_rfl)
theorem tiok252 : TGood Tryz.prog 252 ti252 := tg (by kernel_rfl)
theorem tiok253 : TGood Tryz.prog 253 ti253 := tg (by kernel_rfl)
theorem tiok254 : TGood Tryz.prog 254 ti254 := tg (by kernel_rfl)
theorem tiok255 : TGood Tryz.prog 255 ti255 := tg (by kernel_rfl)
theorem tiok256 : TGood Tryz.prog 256 ti256 := tg (by kernel_rfl)
theorem tiok257 : TGood Tryz.prog 257 ti257 := tg (by kernel_rfl)
theorem tiok258 : TGood Tryz.prog 258 ti258 := tg (by kernel_rfl)
theorem tiok259 : TGood Tryz.prog 259 ti259 := tg (by kernel_rfl)
theorem tiok260 : TGood Tryz.prog 260 ti260 := tg (by kernel_rfl)
theorem tiok261 : TGood Tryz.prog 261 ti261 := tg (by kernel_rfl)
theorem tiok262 : TGood Tryz.prog 262 ti262 := tg (by kernel_rfl)
theorem tiok263 : TGood Tryz.prog 263 ti263 := tg (by kernel_rfl)
theorem tiok264 : TGood Tryz.prog 264 ti264 := tg (by kernel_rfl)
theorem tiok266 : TGood Tryz.prog 266 ti266 := tg (by kernel_rfl)
theorem tiok267 : TGood Tryz.prog 267 ti267 := tg (by kernel_rfl)
theorem tiok268 : TGood Tryz.prog 268 ti268 := tg (by kernel_rfl)
theorem tiok269 : TGood Tryz.prog 269 ti269 := tg (by kernel_rfl)
theorem tiok270 : TGood Tryz.prog 270 ti270 := tg (by kernel_rfl)
theorem tiok272 : TGood Tryz.prog 272 ti272 := tg (by kernel_rfl)
theorem tiok273 : TGood Tryz.prog 273 ti273 := tg (by kernel_rfl)
theorem tiok274 : TGood Tryz.prog 274 ti274 := tg (by kernel_rfl)
theorem tiok275 : TGood Tryz.prog 275 ti275 := tg (by kernel_rfl)
theorem tiok276 : TGood Tryz.prog 276 ti276 := tg (by kernel_rfl)
theorem tiok277 : TGood Tryz.prog 277 ti277 := tg (by kernel_rfl)
theorem tiok278 : TGood Tryz.prog 278 ti278 := tg (by kernel_rfl)
theorem tiok279 : TGood Tryz.prog 279 ti279 := tg (by kernel_rfl)
theorem tiok280 : TGood Tryz.prog 280 ti280 := tg (by kernel_rfl)
theorem tiok281 : TGood Tryz.prog 281 ti281 := tg (by kernel_rfl)
theorem tiok282 : TGood Tryz.prog 282 ti282 := tg (by kernel_rfl)
theorem tiok283 : TGood Tryz.prog 283 ti283 := tg (by kernel_rfl)
theorem tiok284 : TGood Tryz.prog 284 ti284 := tg (by kernel_rfl)
theorem tiok285 : TGood Tryz.prog 285 ti285 := tg (by kernel_rfl)
theorem tiok286 : TGood Tryz.prog 286 ti286 := tg (by kernel_rfl)
theorem tiok287 : TGood Tryz.prog 287 ti287 := tg (by kernel_rfl)
theorem tiok288 : TGood Tryz.prog 288 ti288 := tg (by kernel_rfl)
theorem tiok289 : TGood Tryz.prog 289 ti289 := tg (by kernel_rfl)
theorem tiok291 : TGood Tryz.prog 291 ti291 := tg (by kernel_rfl)
theorem tiok292 : TGood Tryz.prog 292 ti292 := tg (by kernel_rfl)
theorem tiok293 : TGood Tryz.prog 293 ti293 := tg (by kernel_rfl)
theorem tiok294 : TGood Tryz.prog 294 ti294 := tg (by kernel_rfl)
theorem tiok295 : TGood Tryz.prog 295 ti295 := tg (by kernel_rfl)
theorem tiok296 : TGood Tryz.prog 296 ti296 := tg (by kernel_rfl)
theorem tiok298 : TGood Tryz.prog 298 ti298 := tg (by kernel_rfl)
theorem tiok299 : TGood Tryz.prog 299 ti299 := tg (by kernel_rfl)
theorem tiok300 : TGood Tryz.prog 300 ti300 := tg (by kernel_rfl)
theorem tiok301 : TGood Tryz.prog 301 ti301 := tg (by kernel_rfl)
theorem tiok302 : TGood Tryz.prog 302 ti302 := tg (by kernel_rfl)
theorem tiok303 : TGood Tryz.prog 303 ti303 := tg (by kernel_rfl)
theorem tiok304 : TGood Tryz.prog 304 ti304 := tg (by kernel_rfl)
theorem tiok305 : TGood Tryz.prog 305 ti305 := tg (by kernel_rfl)
theorem tiok306 : TGood Tryz.prog 306 ti306 := tg (by kernel_rfl)
theorem tiok307 : TGood Tryz.prog 307 ti307 := tg (by kernel_rfl)
theorem tiok308 : TGood Tryz.prog 308 ti308 := tg (by kernel_rfl)
theorem tiok309 : TGood Tryz.prog 309 ti309 := tg (by kernel_rfl)
theorem tiok310 : TGood Tryz.prog 310 ti310 := tg (by kernel_rfl)
theorem tiok311 : TGood Tryz.prog 311 ti311 := tg (by kernel_rfl)
theorem tiok312 : TGood Tryz.prog 312 ti312 := tg (by kernel_rfl)
theorem tiok314 : TGood Tryz.prog 314 ti314 := tg (by kernel_rfl)
theorem tiok316 : TGood Tryz.prog 316 ti316 := tg (by kernel_rfl)
theorem tiok317 : TGood Tryz.prog 317 ti317 := tg (by kernel_rfl)
theorem tiok319 : TGood Tryz.prog 319 ti319 := tg (by kernel_rfl)
theorem tiok320 : TGood Tryz.prog 320 ti320 := tg (by kernel_rfl)
theorem tiok321 : TGood Tryz.prog 321 ti321 := tg (by kernel_rfl)
theorem tiok322 : TGood Tryz.prog 322 ti322 := tg (by kernel_rfl)
theorem tiok323 : TGood Tryz.prog 323 ti323 := tg (by kernel_rfl)
theorem tiok325 : TGood Tryz.prog 325 ti325 := tg (by kernel_rfl)
theorem tiok326 : TGood Tryz.prog 326 ti326 := tg (by kernel_rfl)
theorem tiok327 : TGood Tryz.prog 327 ti327 := tg (by kernel_rfl)
theorem tiok328 : TGood Tryz.prog 328 ti328 := tg (by kernel_rfl)
theorem tiok329 : TGood Tryz.prog 329 ti329 := tg (by kernel_rfl)
theorem tiok330 : TGood Tryz.prog 330 ti330 := tg (by kernel_rfl)
theorem tiok331 : TGood Tryz.prog 331 ti331 := tg (by kernel_rfl)
theorem tiok332 : TGood Tryz.prog 332 ti332 := tg (by kernel_rfl)
theorem tiok333 : TGood Tryz.prog 333 ti333 := tg (by kernel_rfl)
theorem tiok335 : TGood Tryz.prog 335 ti335 := tg (by kernel_rfl)
theorem tiok336 : TGood Tryz.prog 336 ti336 := tg (by kernel_rfl)
theorem tiok337 : TGood Tryz.prog 337 ti337 := tg (by kernel_rfl)
theorem tiok338 : TGood Tryz.prog 338 ti338 := tg (by kernel_rfl)
theorem tiok339 : TGood Tryz.prog 339 ti339 := tg (by kernel_rfl)
theorem tiok340 : TGood Tryz.prog 340 ti340 := tg (by kernel_rfl)
theorem tiok341 : TGood Tryz.prog 341 ti341 := tg (by kernel_rfl)
theorem tiok342 : TGood Tryz.prog 342 ti342 := tg (by kernel_rfl)
theorem tiok343 : TGood Tryz.prog 343 ti343 := tg (by kernel_rfl)
theorem tiok344 : TGood Tryz.prog 344 ti344 := tg (by kernel_rfl)
theorem tiok345 : TGood Tryz.prog 345 ti345 := tg (by kernel_rfl)
theorem tiok346 : TGood Tryz.prog 346 ti346 := tg (by kernel_rfl)
theorem tiok347 : TGood Tryz.prog 347 ti347 := tg (by kernel_rfl)
theorem tiok348 : TGood Tryz.prog 348 ti348 := tg (by kernel_rfl)
theorem tiok349 : TGood Tryz.prog 349 ti349 := tg (by kernel_rfl)
theorem tiok350 : TGood Tryz.prog 350 ti350 := tg (by kernel_rfl)
theorem tiok351 : TGood Tryz.prog 351 ti351 := tg (by kernel_rfl)
theorem tiok352 : TGood Tryz.prog 352 ti352 := tg (by kernel_rfl)
theorem tiok353 : TGood Tryz.prog 353 ti353 := tg (by kernel_rfl)
theorem tiok354 : TGood Tryz.prog 354 ti354 := tg (by kernel_rfl)
theorem tiok355 : TGood Tryz.prog 355 ti355 := tg (by kernel_rfl)
theorem tiok356 : TGood Tryz.prog 356 ti356 := tg (by kernel_rfl)
theorem tiok357 : TGood Tryz.prog 357 ti357 := tg (by kernel_rfl)
theorem tiok358 : TGood Tryz.prog 358 ti358 := tg (by kernel_rfl)
theorem tiok359 : TGood Tryz.prog 359 ti359 := tg (by kernel_rfl)
theorem tiok360 : TGood Tryz.prog 360 ti360 := tg (by kernel_rfl)
theorem tiok361 : TGood Tryz.prog 361 ti361 := tg (by kernel_rfl)
theorem tiok362 : TGood Tryz.prog 362 ti362 := tg (by kernel_rfl)
theorem tiok363 : TGood Tryz.prog 363 ti363 := tg (by kernel_rfl)
theorem tiok364 : TGood Tryz.prog 364 ti364 := tg (by kernel_rfl)
theorem tiok365 : TGood Tryz.prog 365 ti365 := tg (by kernel_rfl)
theorem tiok366 : TGood Tryz.prog 366 ti366 := tg (by kernel_rfl)
theorem tiok367 : TGood Tryz.prog 367 ti367 := tg (by kernel_rfl)
theorem tiok368 : TGood Tryz.prog 368 ti368 := tg (by kernel_rfl)
theorem tiok369 : TGood Tryz.prog 369 ti369 := tg (by kernel_rfl)
theorem tiok370 : TGood Tryz.prog 370 ti370 := tg (by kernel_rfl)
theorem tiok371 : TGood Tryz.prog 371 ti371 := tg (by kernel_rfl)
theorem tiok372 : TGood Tryz.prog 372 ti372 := tg (by kernel_rfl)
theorem tiok373 : TGood Tryz.prog 373 ti373 := tg (by kernel_rfl)
theorem tiok374 : TGood Tryz.prog 374 ti374 := tg (by kernel_rfl)
theorem tiok375 : TGood Tryz.prog 375 ti375 := tg (by kernel_rfl)
theorem tiok376 : TGood Tryz.prog 376 ti376 := tg (by kernel_rfl)
theorem tiok377 : TGood Tryz.prog 377 ti377 := tg (by kernel_rfl)
theorem tiok379 : TGood Tryz.prog 379 ti379 := tg (by kernel_rfl)
theorem tiok380 : TGood Tryz.prog 380 ti380 := tg (by kernel_rfl)
theorem tiok381 : TGood Tryz.prog 381 ti381 := tg (by kernel_rfl)
theorem tiok382 : TGood Tryz.prog 382 ti382 := tg (by kernel_rfl)
theorem tiok383 : TGood Tryz.prog 383 ti383 := tg (by kernel_rfl)
theorem tiok384 : TGood Tryz.prog 384 ti384 := tg (by kernel_rfl)
theorem tiok385 : TGood Tryz.prog 385 ti385 := tg (by kernel_rfl)
theorem tiok386 : TGood Tryz.prog 386 ti386 := tg (by kernel_rfl)
theorem tiok387 : TGood Tryz.prog 387 ti387 := tg (by kernel_rfl)
theorem tiok388 : TGood Tryz.prog 388 ti388 := tg (by kernel_rfl)
theorem tiok389 : TGood Tryz.prog 389 ti389 := tg (by kernel_rfl)
theorem tiok390 : TGood Tryz.prog 390 ti390 := tg (by kernel_rfl)
theorem tiok391 : TGood Tryz.prog 391 ti391 := tg (by kernel_rfl)
theorem tiok392 : TGood Tryz.prog 392 ti392 := tg (by kernel_rfl)
theorem tiok393 : TGood Tryz.prog 393 ti393 := tg (by kernel_rfl)
theorem tiok394 : TGood Tryz.prog 394 ti394 := tg (by kernel_rfl)
theorem tiok395 : TGood Tryz.prog 395 ti395 := tg (by kernel_rfl)
theorem tiok396 : TGood Tryz.prog 396 ti396 := tg (by kernel_rfl)
theorem tiok397 : TGood Tryz.prog 397 ti397 := tg (by kernel_rfl)
theorem tiok398 : TGood Tryz.prog 398 ti398 := tg (by kernel_rfl)
theorem tiok399 : TGood Tryz.prog 399 ti399 := tg (by kernel_rfl)
theorem tiok402 : TGood Tryz.prog 402 ti402 := tg (by kernel_rfl)
theorem tiok403 : TGood Tryz.prog 403 ti403 := tg (by kernel_rfl)
theorem tiok404 : TGood Tryz.prog 404 ti404 := tg (by kernel_rfl)
theorem tiok405 : TGood Tryz.prog 405 ti405 := tg (by kernel_rfl)
theorem tiok406 : TGood Tryz.prog 406 ti406 := tg (by kernel_rfl)
theorem tiok407 : TGood Tryz.prog 407 ti407 := tg (by kernel_rfl)
theorem tiok408 : TGood Tryz.prog 408 ti408 := tg (by kernel_rfl)
theorem tiok409 : TGood Tryz.prog 409 ti409 := tg (by kernel_rfl)
theorem tiok410 : TGood Tryz.prog 410 ti410 := tg (by kernel_rfl)
theorem tiok411 : TGood Tryz.prog 411 ti411 := tg (by kernel_rfl)
theorem tiok412 : TGood Tryz.prog 412 ti412 := tg (by kernel_rfl)
theorem tiok413 : TGood Tryz.prog 413 ti413 := tg (by kernel_rfl)
def T (t : TypeId) : TInfo := tiF tiL t
theorem tOk : TOk Tryz.prog T := tok_of (tiAll_cons tiok1 (tiAll_cons tiok2 (tiAll_cons tiok3 (tiAll_cons tiok4 (tiAll_cons tiok5 (tiAll_cons tiok6 (tiAll_cons tiok7 (tiAll_cons tiok8 (tiAll_cons tiok9 (tiAll_cons tiok10 (tiAll_cons tiok11 (tiAll_cons tiok12 (tiAll_cons tiok15 (tiAll_cons tiok16 (tiAll_cons tiok17 (tiAll_cons tiok18 (tiAll_cons tiok19 (tiAll_cons tiok20 (tiAll_cons tiok21 (tiAll_cons tiok22 (tiAll_cons tiok23 (tiAll_cons tiok24 (tiAll_cons tiok25 (tiAll_cons tiok26 (tiAll_cons tiok27 (tiAll_cons tiok28 (tiAll_cons tiok29 (tiAll_cons tiok30 (tiAll_cons tiok31 (tiAll_cons tiok32 (tiAll_cons tiok33 (tiAll_cons tiok35 (tiAll_cons tiok36 (tiAll_cons tiok38 (tiAll_cons tiok39 (tiAll_cons tiok40 (tiAll_cons tiok42 (tiAll_cons tiok43 (tiAll_cons tiok44 (tiAll_cons tiok45 (tiAll_cons tiok46 (tiAll_cons tiok47 (tiAll_cons tiok48 (tiAll_cons tiok49 (tiAll_cons tiok50 (tiAll_cons tiok51 (tiAll_cons tiok52 (tiAll_cons tiok53 (tiAll_cons tiok54 (tiAll_cons tiok55 (tiAll_cons tiok56 (tiAll_cons tiok58 (tiAll_cons tiok59 (tiAll_cons tiok60 (tiAll_cons tiok61 (tiAll_cons tiok62 (tiAll_cons tiok63 (tiAll_cons tiok65 (tiAll_cons tiok66 (tiAll_cons tiok68 (tiAll_cons tiok69 (tiAll_cons tiok70 (tiAll_cons tiok71 (tiAll_cons tiok72 (tiAll_cons tiok73 (tiAll_cons tiok74 (tiAll_cons tiok76 (tiAll_cons tiok77 (tiAll_cons tiok79 (tiAll_cons tiok80 (tiAll_cons tiok81 (tiAll_cons tiok83 (tiAll_cons tiok84 (tiAll_cons tiok85 (tiAll_cons tiok86 (tiAll_cons tiok88 (tiAll_cons tiok90 (tiAll_cons tiok91 (tiAll_cons tiok92 (tiAll_cons tiok94 (tiAll_cons tiok95 (tiAll_cons tiok96 (tiAll_cons tiok97 (tiAll_cons tiok98 (tiAll_cons tiok99 (tiAll_cons tiok101 (tiAll_cons tiok103 (tiAll_cons tiok104 (tiAll_cons tiok105 (tiAll_cons tiok107 (tiAll_cons tiok109 (tiAll_cons tiok111 (tiAll_cons tiok112 (tiAll_cons tiok114 (tiAll_cons tiok116 (tiAll_cons tiok117 (tiAll_cons tiok118 (tiAll_cons tiok119 (tiAll_cons tiok120 (tiAll_cons tiok121 (tiAll_cons tiok122 (tiAll_cons tiok123 (tiAll_cons tiok124 (tiAll_cons tiok125 (tiAll_cons tiok126 (tiAll_cons tiok127 (tiAll_cons tiok128 (tiAll_cons tiok129 (tiAll_cons tiok130 (tiAll_cons tiok131 (tiAll_cons tiok132 (tiAll_cons tiok133 (tiAll_cons tiok134 (tiAll_cons tiok135 (tiAll_cons tiok136 (tiAll_cons tiok137 (tiAll_cons tiok138 (tiAll_cons tiok140 (tiAll_cons tiok142 (tiAll_cons tiok143 (tiAll_cons tiok145 (tiAll_cons tiok147 (tiAll_cons tiok148 (tiAll_cons tiok149 (tiAll_cons tiok150 (tiAll_cons tiok151 (tiAll_cons tiok152 (tiAll_cons tiok153 (tiAll_cons tiok155 (tiAll_cons tiok156 (tiAll_cons tiok157 (tiAll_cons tiok158 (tiAll_cons tiok159 (tiAll_cons tiok160 (tiAll_cons tiok161 (tiAll_cons tiok162 (tiAll_cons tiok163 (tiAll_cons tiok164 (tiAll_cons tiok165 (tiAll_cons tiok166 (tiAll_cons tiok167 (tiAll_cons tiok168 (tiAll_cons tiok169 (tiAll_cons tiok171 (tiAll_cons tiok172 (tiAll_cons tiok173 (tiAll_cons tiok174 (tiAll_cons tiok176 (tiAll_cons tiok178 (tiAll_cons tiok179 (tiAll_cons tiok181 (tiAll_cons tiok182 (tiAll_cons tiok184 (tiAll_cons tiok185 (tiAll_cons tiok186 (tiAll_cons tiok187 (tiAll_cons tiok188 (tiAll_cons tiok189 (tiAll_cons tiok190 (tiAll_cons tiok192 (tiAll_cons tiok193 (tiAll_cons tiok194 (tiAll_cons tiok195 (tiAll_cons tiok196 (tiAll_cons tiok197 (tiAll_cons tiok198 (tiAll_cons tiok199 (tiAll_cons tiok200 (tiAll_cons tiok201 (tiAll_cons tiok202 (tiAll_cons tiok203 (tiAll_cons tiok204 (tiAll_cons tiok206 (tiAll_cons tiok207 (tiAll_cons tiok208 (tiAll_cons tiok209 (tiAll_cons tiok210 (tiAll_cons tiok211 (tiAll_cons tiok212 (tiAll_cons tiok213 (tiAll_cons tiok214 (tiAll_cons tiok215 (tiAll_cons tiok216 (tiAll_cons tiok217 (tiAll_cons tiok218 (tiAll_cons tiok219 (tiAll_cons tiok221 (tiAll_cons tiok222 (tiAll_cons tiok223 (tiAll_cons tiok224 (tiAll_cons tiok225 (tiAll_cons tiok226 (tiAll_cons tiok227 (tiAll_cons tiok228 (tiAll_cons tiok229 (tiAll_cons tiok230 (tiAll_cons tiok231 (tiAll_cons tiok232 (tiAll_cons tiok233 (tiAll_cons tiok234 (tiAll_cons tiok236 (tiAll_cons tiok237 (tiAll_cons tiok238 (tiAll_cons tiok239 (tiAll_cons tiok240 (tiAll_cons tiok242 (tiAll_cons tiok243 (tiAll_cons tiok244 (tiAll_cons tiok245 (tiAll_cons tiok246 (tiAll_cons tiok247 (tiAll_cons tiok248 (tiAll_cons tiok249 (tiAll_cons tiok250 (tiAll_cons tiok251 (tiAll_cons tiok252 (tiAll_cons tiok253 (tiAll_cons tiok254 (tiAll_cons tiok255 (tiAll_cons tiok256 (tiAll_cons tiok257 (tiAll_cons tiok258 (tiAll_cons tiok259 (tiAll_cons tiok260 (tiAll_cons tiok261 (tiAll_cons tiok262 (tiAll_cons tiok263 (tiAll_cons tiok264 (tiAll_cons tiok266 (tiAll_cons tiok267 (tiAll_cons tiok268 (tiAll_cons tiok269 (tiAll_cons tiok270 (tiAll_cons tiok272 (tiAll_cons tiok273 (tiAll_cons tiok274 (tiAll_cons tiok275 (tiAll_cons tiok276 (tiAll_cons tiok277 (tiAll_cons tiok278 (tiAll_cons tiok279 (tiAll_cons tiok280 (tiAll_cons tiok281 (tiAll_cons tiok282 (tiAll_cons tiok283 (tiAll_cons tiok284 (tiAll_cons tiok285 (tiAll_cons tiok286 (tiAll_cons tiok287 (tiAll_cons tiok288 (tiAll_cons tiok289 (tiAll_cons tiok291 (tiAll_cons tiok292 (tiAll_cons tiok293 (tiAll_cons tiok294 (tiAll_cons tiok295 (tiAll_cons tiok296 (tiAll_cons tiok298 (tiAll_cons tiok299 (tiAll_cons tiok300 (tiAll_cons tiok301 (tiAll_cons tiok302 (tiAll_cons tiok303 (tiAll_cons tiok304 (tiAll_cons tiok305 (tiAll_cons tiok306 (tiAll_cons tiok307 (tiAll_cons tiok308 (tiAll_cons tiok309 (tiAll_cons tiok310 (tiAll_cons tiok311 (tiAll_cons tiok312 (tiAll_cons tiok314 (tiAll_cons tiok316 (tiAll_cons tiok317 (tiAll_cons tiok319 (tiAll_cons tiok320 (tiAll_cons tiok321 (tiAll_cons tiok322 (tiAll_cons tiok323 (tiAll_cons tiok325 (tiAll_cons tiok326 (tiAll_cons tiok327 (tiAll_cons tiok328 (tiAll_cons tiok329 (tiAll_cons tiok330 (tiAll_cons tiok331 (tiAll_cons tiok332 (tiAll_cons tiok333 (tiAll_cons tiok335 (tiAll_cons tiok336 (tiAll_cons tiok337 (tiAll_cons tiok338 (tiAll_cons tiok339 (tiAll_cons tiok340 (tiAll_cons tiok341 (tiAll_cons tiok342 (tiAll_cons tiok343 (tiAll_cons tiok344 (tiAll_cons tiok345 (tiAll_cons tiok346 (tiAll_cons tiok347 (tiAll_cons tiok348 (tiAll_cons tiok349 (tiAll_cons tiok350 (tiAll_cons tiok351 (tiAll_cons tiok352 (tiAll_cons tiok353 (tiAll_cons tiok354 (tiAll_cons tiok355 (tiAll_cons tiok356 (tiAll_cons tiok357 (tiAll_cons tiok358 (tiAll_cons tiok359 (tiAll_cons tiok360 (tiAll_cons tiok361 (tiAll_cons tiok362 (tiAll_cons tiok363 (tiAll_cons tiok364 (tiAll_cons tiok365 (tiAll_cons tiok366 (tiAll_cons tiok367 (tiAll_cons tiok368 (tiAll_cons tiok369 (tiAll_cons tiok370 (tiAll_cons tiok371 (tiAll_cons tiok372 (tiAll_cons tiok373 (tiAll_cons tiok374 (tiAll_cons tiok375 (tiAll_cons tiok376 (tiAll_cons tiok377 (tiAll_cons tiok379 (tiAll_cons tiok380 (tiAll_cons tiok381 (tiAll_cons tiok382 (tiAll_cons tiok383 (tiAll_cons tiok384 (tiAll_cons tiok385 (tiAll_cons tiok386 (tiAll_cons tiok387 (tiAll_cons tiok388 (tiAll_cons tiok389 (tiAll_cons tiok390 (tiAll_cons tiok391 (tiAll_cons tiok392 (tiAll_cons tiok393 (tiAll_cons tiok394 (tiAll_cons tiok395 (tiAll_cons tiok396 (tiAll_cons tiok397 (tiAll_cons tiok398 (tiAll_cons tiok399 (tiAll_cons tiok402 (tiAll_cons tiok403 (tiAll_cons tiok404 (tiAll_cons tiok405 (tiAll_cons tiok406 (tiAll_cons tiok407 (tiAll_cons tiok408 (tiAll_cons tiok409 (tiAll_cons tiok410 (tiAll_cons tiok411 (tiAll_cons tiok412 (tiAll_cons tiok413 (tiAll_nil))))))))))))))))))))))))))))))))))))))))))))))))))))))))))))))))))))))))))))))))))))))))))))))))))))))))))))))))))))))))))))))))))))))))))))))))))))))))))))))))))))))))))))))))))))))))))))))))))))))))))))))))))))))))))))))))))))))))))))))))))))))))))))))))))))))))))))))))))))))))))))))))))))))))))))))))))))))))))))))))))))))))))))))))))))))))))))))))))))))))))))))
theorem bwAll : ∀ q ∈ bwTab, BwOk Tryz.prog q := fun q h => by cases h
theorem mixed : Tryz.prog.follows .mixedOrders = true := by kernel_rfl
end
noncomputable section
set_option maxRecDepth 100000
open Go Go.RowKit
noncomputable section
abbrev vi (n : Int) : CV := .v (.int .i64 n)
abbrev vb (b : Bool) : CV := .v (.bool b)
abbrev vn : CV := .v (.slice none 0 0)
abbrev l_ : Tr CV := .lf
abbrev n_ (l : Tr CV) (c : CV) (r : Tr CV) : Tr CV := .nd l (some c) r
def wFs : List Func := Tryz.prog.funcs.toList
def wE : KEnv := ⟨wFs, 69992089942651254108360146112192201489805003123099121611023720250168740418746460188169609882302939132, 6903431343457263767413027118460764191420402140971931786484429402869824, 730166745731460135262101046296576⟩
def wE0 : KEnv := ⟨wFs, 69992089942651254108360146112192201489805003123099121611023720250168740418746460188169609882302939132, 6903431343457263767413027118460764191420402140971931786484429402869824, 0⟩
def we0 : MEnt := (28, ([(.sl 0 0 4 none), (.ag [(vi 8), (vi 3), (vi 2), (vi 3), (.sl 1 0 3 (some 3))])], (.nd (.nd .lf (some (.ce (n_ (n_ (n_ l_ (vi 0) l_) (vi 1) (n_ l_ (vi 0) l_)) (vi 0) (n_ (n_ l_ (vi 2) l_) (vi 1) l_)) 6 none false)) .lf) (some (.ce (n_ (n_ (n_ (n_ l_ (vi 2) l_) (vi 2) l_) (vi 1) (n_ l_ (vi 0) l_)) (vi 0) (n_ (n_ l_ (vi 2) l_) (vi 1) (n_ l_ (vi 3) l_))) 8 (some 2) false)) .lf), 2), ((.tu [(.sl 2 0 4 none), (vi 13), (vi 0)]), (.nd (.nd .lf (some (.ce (n_ (n_ (n_ l_ (vi 0) l_) (vi 1) (n_ l_ (vi 0) l_)) (vi 0) (n_ (n_ l_ (vi 2) l_) (vi 1) l_)) 6 none false)) .lf) (some (.ce (n_ (n_ (n_ (n_ l_ (vi 2) l_) (vi 2) l_) (vi 1) (n_ l_ (vi 0) l_)) (vi 0) (n_ (n_ l_ (vi 2) l_) (vi 1) (n_ l_ (vi 3) l_))) 8 (some 2) false)) (.nd .lf (some (.ce (n_ (n_ (n_ (n_ l_ (vi 3) l_) (vi 2) l_) (vi 1) (n_ l_ (vi 2) l_)) (vi 0) (n_ (n_ l_ (vi 1) l_) (vi 0) (n_ l_ (vi 2) l_))) 8 (some 2) true)) .lf)), 3))
def we1 : MEnt := (28, ([(.sl 0 0 1 none), (.ag [(vi 8), (vi 3), (vi 2), (vi 3), (.sl 1 0 3 (some 3))])], (.nd (.nd .lf (some (.ce (n_ (n_ (n_ l_ (vi 0) l_) (vi 1) (n_ l_ (vi 0) l_)) (vi 0) (n_ (n_ l_ (vi 2) l_) (vi 1) l_)) 6 none false)) .lf) (some (.ce (n_ (n_ l_ (vi 0) l_) (vi 1) l_) 2 (some 2) false)) .lf), 2), ((.tu [(.sl 2 0 1 none), (vi 11), (vi 0)]), (.nd (.nd .lf (some (.ce (n_ (n_ (n_ l_ (vi 0) l_) (vi 1) (n_ l_ (vi 0) l_)) (vi 0) (n_ (n_ l_ (vi 2) l_) (vi 1) l_)) 6 none false)) .lf) (some (.ce (n_ (n_ l_ (vi 0) l_) (vi 1) l_) 2 (some 2) false)) (.nd .lf (some (.ce (n_ (n_ l_ (vi 1) l_) (vi 0) l_) 2 (some 2) true)) .lf)), 3))
def we2 : MEnt := (28, ([(.sl 0 0 4 (some 4)), (.ag [(vi 8), (vi 3), (vi 2), (vi 3), (.sl 1 0 3 (some 3))])], (.nd (.nd .lf (some (.ce (n_ (n_ (n_ l_ (vi 0) l_) (vi 1) (n_ l_ (vi 0) l_)) (vi 0) (n_ (n_ l_ (vi 2) l_) (vi 1) l_)) 6 none false)) .lf) (some (.ce (n_ (n_ (n_ (n_ l_ (vi 2) l_) (vi 2) l_) (vi 1) (n_ l_ (vi 0) l_)) (vi 0) (n_ (n_ l_ (vi 2) l_) (vi 1) (n_ l_ (vi 3) l_))) 8 none false)) .lf), 2), ((.tu [(.sl 2 0 4 none), (vi 13), (vi 0)]), (.nd (.nd .lf (some (.ce (n_ (n_ (n_ l_ (vi 0) l_) (vi 1) (n_ l_ (vi 0) l_)) (vi 0) (n_ (n_ l_ (vi 2) l_) (vi 1) l_)) 6 none false)) .lf) (some (.ce (n_ (n_ (n_ (n_ l_ (vi 2) l_) (vi 2) l_) (vi 1) (n_ l_ (vi 0) l_)) (vi 0) (n_ (n_ l_ (vi 2) l_) (vi 1) (n_ l_ (vi 3) l_))) 8 none false)) (.nd .lf (some (.ce (n_ (n_ (n_ (n_ l_ (vi 3) l_) (vi 2) l_) (vi 1) (n_ l_ (vi 2) l_)) (vi 0) (n_ (n_ l_ (vi 1) l_) (vi 0) (n_ l_ (vi 2) l_))) 8 (some 2) true)) .lf)), 3))
def we3 : MEnt := (6, ([(vi 4), (.ag [(vi 2), (vi 3), (.sl 0 0 3 (some 3))])], (.nd .lf (some (.ce (n_ (n_ (n_ l_ (vi 0) l_) (vi 1) (n_ l_ (vi 0) l_)) (vi 0) (n_ (n_ l_ (vi 2) l_) (vi 1) l_)) 6 none false)) .lf), 1), ((.tu [(.sl 1 0 4 none), (vi 3), (vi 0)]), (.nd (.nd .lf (some (.ce (n_ (n_ (n_ l_ (vi 1) l_) (vi 3) l_) (vi 2) (n_ l_ (vi 0) l_)) 4 (some 1) true)) .lf) (some (.ce (n_ (n_ (n_ l_ (vi 0) l_) (vi 1) (n_ l_ (vi 0) l_)) (vi 0) (n_ (n_ l_ (vi 2) l_) (vi 1) l_)) 6 none false)) .lf), 2))
def we4 : MEnt := (58, ([(.ag [(vi 5), (.sl 0 0 4 none)])], (.nd .lf (some (.ce (n_ (n_ (n_ (n_ (n_ l_ (vb true) l_) (vb true) l_) (vb true) (n_ l_ (vb false) l_)) (vi 1) (n_ (n_ l_ (vi 2) l_) (vi 2) (n_ l_ (vi 3) l_))) (vi 0) (n_ (n_ (n_ l_ (vi 1) l_) (vi 0) (n_ l_ (vi 2) l_)) (vi 0) (n_ (n_ l_ (vi 0) l_) (vi 0) (n_ l_ (vi 0) l_)))) 16 (some 4) false)) .lf), 1), ((vb true), (.nd .lf (some (.ce (n_ (n_ (n_ (n_ (n_ l_ (vb true) l_) (vb true) l_) (vb true) (n_ l_ (vb false) l_)) (vi 1) (n_ (n_ l_ (vi 2) l_) (vi 2) (n_ l_ (vi 3) l_))) (vi 0) (n_ (n_ (n_ l_ (vi 1) l_) (vi 0) (n_ l_ (vi 2) l_)) (vi 0) (n_ (n_ l_ (vi 0) l_) (vi 0) (n_ l_ (vi 0) l_)))) 16 (some 4) false)) .lf), 1))
def we5 : MEnt := (58, ([(.ag [(vi 5), (.sl 0 0 3 none)])], (.nd .lf (some (.ce (n_ (n_ (n_ (n_ l_ (vb false) l_) (vb true) (n_ l_ (vb true) l_)) (vi 2) (n_ (n_ l_ (vi 3) l_) (vi 2) l_)) (vi 0) (n_ (n_ (n_ l_ (vi 2) l_) (vi 1) l_) (vi 0) (n_ (n_ l_ (vi 0) l_) (vi 0) l_))) 12 (some 4) false)) .lf), 1), ((vb true), (.nd .lf (some (.ce (n_ (n_ (n_ (n_ l_ (vb false) l_) (vb true) (n_ l_ (vb true) l_)) (vi 2) (n_ (n_ l_ (vi 3) l_) (vi 2) l_)) (vi 0) (n_ (n_ (n_ l_ (vi 2) l_) (vi 1) l_) (vi 0) (n_ (n_ l_ (vi 0) l_) (vi 0) l_))) 12 (some 4) false)) .lf), 1))
def we6 : MEnt := (58, ([(.ag [(vi 5), (.sl 0 0 3 none)])], (.nd .lf (some (.ce (n_ (n_ (n_ (n_ l_ (vb true) l_) (vb true) (n_ l_ (vb true) l_)) (vi 2) (n_ (n_ l_ (vi 3) l_) (vi 2) l_)) (vi 0) (n_ (n_ (n_ l_ (vi 2) l_) (vi 1) l_) (vi 0) (n_ (n_ l_ (vi 0) l_) (vi 0) l_))) 12 (some 4) false)) .lf), 1), ((vb true), (.nd .lf (some (.ce (n_ (n_ (n_ (n_ l_ (vb true) l_) (vb true) (n_ l_ (vb true) l_)) (vi 2) (n_ (n_ l_ (vi 3) l_) (vi 2) l_)) (vi 0) (n_ (n_ (n_ l_ (vi 2) l_) (vi 1) l_) (vi 0) (n_ (n_ l_ (vi 0) l_) (vi 0) l_))) 12 (some 4) false)) .lf), 1))
def we7 : MEnt := (21, ([(.ag [(vi 5), (.sl 0 0 3 none)]), (vi 0)], (.nd .lf (some (.ce (n_ (n_ (n_ (n_ l_ (vb true) l_) (vb true) (n_ l_ (vb true) l_)) (vi 2) (n_ (n_ l_ (vi 3) l_) (vi 2) l_)) (vi 0) (n_ (n_ (n_ l_ (vi 2) l_) (vi 1) l_) (vi 0) (n_ (n_ l_ (vi 0) l_) (vi 0) l_))) 12 (some 4) false)) .lf), 1), ((.tu [(.ag [(vi 5), (.sl 3 0 2 none)]), (vi 0)]), (.nd (.nd (.nd .lf (some (.ce (n_ (n_ l_ (.sl 1 0 1 (some 1)) l_) (.sl 2 0 10 none) l_) 2 (some 1) true)) .lf) (some (.ce (n_ l_ (vi 4) l_) 1 none true)) .lf) (some (.ce (n_ (n_ (n_ (n_ l_ (vb true) l_) (vb true) (n_ l_ (vb true) l_)) (vi 2) (n_ (n_ l_ (vi 3) l_) (vi 2) l_)) (vi 0) (n_ (n_ (n_ l_ (vi 2) l_) (vi 1) l_) (vi 0) (n_ (n_ l_ (vi 0) l_) (vi 0) l_))) 12 (some 4) false)) (.nd .lf (some (.ce (n_ (n_ (n_ (n_ l_ (vi 3) l_) (vi 1) l_) (vi 7) (n_ (n_ l_ (vi 15) l_) (vi 2) l_)) (vi 0) (n_ (n_ (n_ l_ (vi 22) l_) (vi 12) l_) (vi 16) (n_ l_ (vi 18) l_))) 10 (some 1) true)) .lf)), 4))
def we8 : MEnt := (47, ([(.ag [(vi 5), (.sl 0 0 4 none), (vi 1), (vi 16)]), (.ag [(vi 2), (.sl 1 0 1 none), vn]), (.ag [(vi 8), (vi 3), (vi 2), (vi 3), (.sl 2 0 3 (some 3))])], (.nd (.nd .lf (some (.ce (n_ (n_ l_ (vi 0) l_) (vi 1) l_) 2 (some 2) false)) .lf) (some (.ce (n_ (n_ (n_ (n_ (n_ l_ (vb true) l_) (vb true) l_) (vb true) (n_ l_ (vb false) l_)) (vi 1) (n_ (n_ l_ (vi 2) l_) (vi 2) (n_ l_ (vi 3) l_))) (vi 0) (n_ (n_ (n_ l_ (vi 1) l_) (vi 0) (n_ l_ (vi 2) l_)) (vi 0) (n_ (n_ l_ (vi 0) l_) (vi 0) (n_ l_ (vi 0) l_)))) 16 (some 4) false)) (.nd .lf (some (.ce (n_ (n_ (n_ l_ (vi 0) l_) (vi 1) (n_ l_ (vi 0) l_)) (vi 0) (n_ (n_ l_ (vi 2) l_) (vi 1) l_)) 6 none false)) .lf)), 3), ((.tu [(.ag [(vi 5), (.sl 3 0 3 none), (vi 2), (vi 28)]), (.ag [(vi 0), (vi 1), vn])]), (.nd (.nd (.nd .lf (some (.ce (n_ (n_ (n_ (n_ l_ (vb true) l_) (vb true) (n_ l_ (vb true) l_)) (vi 2) (n_ (n_ l_ (vi 3) l_) (vi 2) l_)) (vi 0) (n_ (n_ (n_ l_ (vi 2) l_) (vi 1) l_) (vi 0) (n_ (n_ l_ (vi 0) l_) (vi 0) l_))) 12 (some 4) true)) .lf) (some (.ce (n_ (n_ l_ (vi 0) l_) (vi 1) l_) 2 (some 2) false)) .lf) (some (.ce (n_ (n_ (n_ (n_ (n_ l_ (vb true) l_) (vb true) l_) (vb true) (n_ l_ (vb false) l_)) (vi 1) (n_ (n_ l_ (vi 2) l_) (vi 2) (n_ l_ (vi 3) l_))) (vi 0) (n_ (n_ (n_ l_ (vi 1) l_) (vi 0) (n_ l_ (vi 2) l_)) (vi 0) (n_ (n_ l_ (vi 0) l_) (vi 0) (n_ l_ (vi 0) l_)))) 16 (some 4) false)) (.nd .lf (some (.ce (n_ (n_ (n_ l_ (vi 0) l_) (vi 1) (n_ l_ (vi 0) l_)) (vi 0) (n_ (n_ l_ (vi 2) l_) (vi 1) l_)) 6 none false)) .lf)), 4))
def we9 : MEnt := (12, ([(.ag [(vi 5), vn, (vi 0), (vi 0)]), (.sl 0 0 39 none), (.ag [(vi 8), (vi 3), (vi 2), (vi 3), (.sl 1 0 3 (some 3))])], (.nd (.nd .lf (some (.ce (n_ (n_ (n_ l_ (vi 0) l_) (vi 1) (n_ l_ (vi 0) l_)) (vi 0) (n_ (n_ l_ (vi 2) l_) (vi 1) l_)) 6 none false)) .lf) (some (.ce (n_ (n_ (n_ (n_ (n_ (n_ l_ (.v (.int .u8 3)) l_) (.v (.int .u8 0)) l_) (.v (.int .u8 0)) (n_ l_ (.v (.int .u8 1)) l_)) (.v (.int .u8 0)) (n_ (n_ (n_ l_ (.v (.int .u8 0)) l_) (.v (.int .u8 2)) l_) (.v (.int .u8 0)) (n_ l_ (.v (.int .u8 0)) l_))) (.v (.int .u8 0)) (n_ (n_ (n_ (n_ l_ (.v (.int .u8 0)) l_) (.v (.int .u8 0)) l_) (.v (.int .u8 0)) (n_ l_ (.v (.int .u8 0)) l_)) (.v (.int .u8 0)) (n_ (n_ (n_ l_ (.v (.int .u8 0)) l_) (.v (.int .u8 1)) l_) (.v (.int .u8 0)) (n_ l_ (.v (.int .u8 3)) l_)))) (.v (.int .u8 1)) (n_ (n_ (n_ (n_ (n_ l_ (.v (.int .u8 0)) l_) (.v (.int .u8 3)) l_) (.v (.int .u8 1)) (n_ l_ (.v (.int .u8 0)) l_)) (.v (.int .u8 0)) (n_ (n_ (n_ l_ (.v (.int .u8 0)) l_) (.v (.int .u8 0)) l_) (.v (.int .u8 2)) (n_ l_ (.v (.int .u8 2)) l_))) (.v (.int .u8 4)) (n_ (n_ (n_ (n_ l_ (.v (.int .u8 4)) l_) (.v (.int .u8 2)) l_) (.v (.int .u8 2)) (n_ l_ (.v (.int .u8 3)) l_)) (.v (.int .u8 1)) (n_ (n_ (n_ l_ (.v (.int .u8 0)) l_) (.v (.int .u8 0)) l_) (.v (.int .u8 0)) (n_ l_ (.v (.int .u8 0)) l_))))) 39 (some 1) false)) .lf), 2), ((.tu [(.ag [(vi 5), (.sl 2 0 3 none), (vi 3), (vi 29)]), (.sl 4 0 3 none), (vi 0)]), (.nd (.nd (.nd .lf (some (.ce (n_ (n_ l_ (vi 2) l_) (vi 4) l_) 2 (some 1) true)) .lf) (some (.ce (n_ (n_ (n_ l_ (vi 0) l_) (vi 1) (n_ l_ (vi 0) l_)) (vi 0) (n_ (n_ l_ (vi 2) l_) (vi 1) l_)) 6 none false)) .lf) (some (.ce (n_ (n_ (n_ (n_ (n_ (n_ l_ (.v (.int .u8 3)) l_) (.v (.int .u8 0)) l_) (.v (.int .u8 0)) (n_ l_ (.v (.int .u8 1)) l_)) (.v (.int .u8 0)) (n_ (n_ (n_ l_ (.v (.int .u8 0)) l_) (.v (.int .u8 2)) l_) (.v (.int .u8 0)) (n_ l_ (.v (.int .u8 0)) l_))) (.v (.int .u8 0)) (n_ (n_ (n_ (n_ l_ (.v (.int .u8 0)) l_) (.v (.int .u8 0)) l_) (.v (.int .u8 0)) (n_ l_ (.v (.int .u8 0)) l_)) (.v (.int .u8 0)) (n_ (n_ (n_ l_ (.v (.int .u8 0)) l_) (.v (.int .u8 1)) l_) (.v (.int .u8 0)) (n_ l_ (.v (.int .u8 3)) l_)))) (.v (.int .u8 1)) (n_ (n_ (n_ (n_ (n_ l_ (.v (.int .u8 0)) l_) (.v (.int .u8 3)) l_) (.v (.int .u8 1)) (n_ l_ (.v (.int .u8 0)) l_)) (.v (.int .u8 0)) (n_ (n_ (n_ l_ (.v (.int .u8 0)) l_) (.v (.int .u8 0)) l_) (.v (.int .u8 2)) (n_ l_ (.v (.int .u8 2)) l_))) (.v (.int .u8 4)) (n_ (n_ (n_ (n_ l_ (.v (.int .u8 4)) l_) (.v (.int .u8 2)) l_) (.v (.int .u8 2)) (n_ l_ (.v (.int .u8 3)) l_)) (.v (.int .u8 1)) (n_ (n_ (n_ l_ (.v (.int .u8 0)) l_) (.v (.int .u8 0)) l_) (.v (.int .u8 0)) (n_ l_ (.v (.int .u8 0)) l_))))) 39 (some 1) false)) (.nd (.nd .lf (some (.ce (n_ (n_ (n_ (n_ l_ (vi 0) l_) (vi 0) l_) (vi 4) (n_ l_ vn l_)) (vi 0) (n_ (n_ (n_ l_ (.sl 3 0 2 none) l_) (vi 1) l_) vn (n_ l_ (vi 0) l_))) 9 (some 3) true)) .lf) (some (.ce (n_ (n_ (n_ (n_ l_ (vb true) l_) (vb true) (n_ l_ (vb true) l_)) (vi 2) (n_ (n_ l_ (vi 3) l_) (vi 2) l_)) (vi 0) (n_ (n_ (n_ l_ (vi 2) l_) (vi 1) l_) (vi 0) (n_ (n_ l_ (vi 0) l_) (vi 0) l_))) 12 (some 4) true)) .lf)), 5))
def we10 : MEnt := (35, ([(.ag [(vi 5), (.sl 0 0 3 none)])], (.nd .lf (some (.ce (n_ (n_ (n_ (n_ l_ (vb true) l_) (vb true) (n_ l_ (vb true) l_)) (vi 2) (n_ (n_ l_ (vi 3) l_) (vi 2) l_)) (vi 0) (n_ (n_ (n_ l_ (vi 2) l_) (vi 1) l_) (vi 0) (n_ (n_ l_ (vi 0) l_) (vi 0) l_))) 12 (some 4) false)) .lf), 1), ((vb true), (.nd .lf (some (.ce (n_ (n_ (n_ (n_ l_ (vb true) l_) (vb true) (n_ l_ (vb true) l_)) (vi 2) (n_ (n_ l_ (vi 3) l_) (vi 2) l_)) (vi 0) (n_ (n_ (n_ l_ (vi 2) l_) (vi 1) l_) (vi 0) (n_ (n_ l_ (vi 0) l_) (vi 0) l_))) 12 (some 4) false)) .lf), 1))
def we11 : MEnt := (16, ([(.ag [(vi 5), (.sl 0 0 3 none), (vi 3), (vi 29)]), (.sl 1 0 4 (some 4))], (.nd (.nd .lf (some (.ce (n_ (n_ (n_ l_ (.v (.int .u32 8)) l_) (.v (.int .u32 2)) l_) (.v (.int .u32 1)) (n_ l_ (.v (.int .u32 4)) l_)) 4 none false)) .lf) (some (.ce (n_ (n_ (n_ (n_ l_ (vb true) l_) (vb true) (n_ l_ (vb true) l_)) (vi 2) (n_ (n_ l_ (vi 3) l_) (vi 2) l_)) (vi 0) (n_ (n_ (n_ l_ (vi 2) l_) (vi 1) l_) (vi 0) (n_ (n_ l_ (vi 0) l_) (vi 0) l_))) 12 (some 4) false)) .lf), 2), ((.tu [(.sl 19 0 2 none), (vi 0)]), (.nd (.nd (.nd (.nd (.nd .lf (some (.ce (n_ l_ (vi 5) l_) 1 (some 1) true)) .lf) (some (.ce (n_ l_ (vi 1) l_) 1 (some 1) true)) .lf) (some (.ce (n_ (n_ (n_ (n_ l_ (vi 4) l_) (vi 2) l_) (vi 4) (n_ (n_ l_ (vi 4) l_) (vi 3) l_)) (vi 1) (n_ (n_ (n_ l_ (vi 3) l_) (vi 1) l_) (vi 1) (n_ l_ (vi 3) l_))) 10 (some 1) true)) (.nd (.nd .lf (some (.ce (n_ (n_ (n_ l_ (.sl 2 0 1 none) l_) (.sl 3 0 10 none) (n_ l_ (.sl 5 0 1 (some 1)) l_)) (.sl 6 0 10 none) (n_ (n_ l_ (.sl 7 0 1 none) l_) (.sl 18 0 10 (some 10)) l_)) 6 (some 3) true)) .lf) (some (.ce (n_ (n_ (n_ l_ (vi 1) l_) (vi 1) l_) (vi 0) (n_ l_ (vi 1) l_)) 4 (some 1) true)) .lf)) (some (.ce (n_ (n_ (n_ l_ (.v (.int .u32 8)) l_) (.v (.int .u32 2)) l_) (.v (.int .u32 1)) (n_ l_ (.v (.int .u32 4)) l_)) 4 none false)) (.nd (.nd (.nd .lf (some (.ce (n_ (n_ l_ (vi 7) l_) (vi 7) (n_ l_ (vi 7) l_)) 3 (some 1) true)) .lf) (some (.ce (n_ (n_ l_ (vi 5) l_) (vi 4) l_) 2 (some 1) true)) .lf) (some (.ce (n_ l_ (.sl 4 0 1 none) l_) 1 none true)) (.nd .lf (some (.ce (n_ l_ (vi 1) l_) 1 (some 1) true)) .lf))) (some (.ce (n_ (n_ (n_ (n_ l_ (vb true) l_) (vb true) (n_ l_ (vb true) l_)) (vi 2) (n_ (n_ l_ (vi 3) l_) (vi 2) l_)) (vi 0) (n_ (n_ (n_ l_ (vi 2) l_) (vi 1) l_) (vi 0) (n_ (n_ l_ (vi 0) l_) (vi 0) l_))) 12 (some 4) false)) (.nd (.nd (.nd (.nd .lf (some (.ce (n_ l_ (vi 3) l_) 1 (some 1) true)) .lf) (some (.ce (n_ (n_ (n_ l_ (vi 9) l_) (vi 8) l_) (vi 8) (n_ l_ (vi 8) l_)) 4 (some 1) true)) .lf) (some (.ce (n_ l_ (vi 0) l_) 1 (some 1) true)) (.nd .lf (some (.ce (n_ (n_ l_ (vi 6) l_) (vi 6) (n_ l_ (vi 6) l_)) 3 (some 1) true)) .lf)) (some (.ce (n_ l_ (vi 4) l_) 1 (some 1) true)) (.nd (.nd (.nd .lf (some (.ce (n_ (n_ (n_ (n_ l_ (.sl 8 0 4 none) l_) (.sl 9 0 2 none) l_) (.sl 10 0 4 none) (n_ (n_ l_ (.sl 11 0 4 none) l_) (.sl 12 0 3 none) l_)) (.sl 13 0 1 none) (n_ (n_ (n_ l_ (.sl 14 0 3 none) l_) (.sl 15 0 1 none) l_) (.sl 16 0 1 none) (n_ l_ (.sl 17 0 3 none) l_))) 10 none true)) .lf) (some (.ce (n_ (n_ (n_ l_ (vi 7) l_) (vi 3) l_) (vi 2) (n_ l_ (vi 5) l_)) 4 (some 1) true)) .lf) (some (.ce (n_ (n_ (n_ (n_ l_ (vi 3) l_) (vi 1) l_) (vi 7) (n_ (n_ l_ (vi 15) l_) (vi 2) l_)) (vi 0) (n_ (n_ (n_ l_ (vi 22) l_) (vi 12) l_) (vi 16) (n_ l_ (vi 18) l_))) 10 (some 1) true)) (.nd .lf (some (.ce (n_ (n_ l_ (vi 9) l_) (vi 9) (n_ l_ (vi 9) l_)) 3 (some 1) true)) .lf)))), 20))
def we12 : MEnt := (17, ([(.ag [(.sl 0 0 10 none), (.sl 1 0 10 none), (.sl 12 0 10 (some 10))]), (.sl 13 0 10 (some 10))], (.nd (.nd (.nd (.nd .lf (some (.ce (n_ l_ (vi 1) l_) 1 (some 1) false)) .lf) (some (.ce (n_ (n_ l_ (vi 5) l_) (vi 4) l_) 2 (some 1) false)) (.nd .lf (some (.ce (n_ (n_ l_ (vi 7) l_) (vi 7) (n_ l_ (vi 7) l_)) 3 (some 1) false)) .lf)) (some (.ce (n_ (n_ (n_ (n_ l_ (vi 4) l_) (vi 2) l_) (vi 4) (n_ (n_ l_ (vi 4) l_) (vi 3) l_)) (vi 1) (n_ (n_ (n_ l_ (vi 3) l_) (vi 1) l_) (vi 1) (n_ l_ (vi 3) l_))) 10 (some 1) false)) (.nd (.nd .lf (some (.ce (n_ l_ (vi 5) l_) 1 (some 1) false)) .lf) (some (.ce (n_ (n_ (n_ l_ (vi 1) l_) (vi 1) l_) (vi 0) (n_ l_ (vi 1) l_)) 4 (some 1) false)) (.nd .lf (some (.ce (n_ (n_ (n_ (n_ l_ (vi 0) l_) (vi 0) l_) (vi 0) (n_ (n_ l_ (vi 0) l_) (vi 0) l_)) (vi 0) (n_ (n_ (n_ l_ (vi 0) l_) (vi 0) l_) (vi 0) (n_ l_ (vi 0) l_))) 10 none false)) .lf))) (some (.ce (n_ (n_ (n_ (n_ l_ (vi 3) l_) (vi 1) l_) (vi 7) (n_ (n_ l_ (vi 15) l_) (vi 2) l_)) (vi 0) (n_ (n_ (n_ l_ (vi 22) l_) (vi 12) l_) (vi 16) (n_ l_ (vi 18) l_))) 10 (some 1) false)) (.nd (.nd (.nd .lf (some (.ce (n_ (n_ l_ (vi 9) l_) (vi 9) (n_ l_ (vi 9) l_)) 3 (some 1) false)) .lf) (some (.ce (n_ (n_ (n_ l_ (vi 7) l_) (vi 3) l_) (vi 2) (n_ l_ (vi 5) l_)) 4 (some 1) false)) (.nd .lf (some (.ce (n_ (n_ (n_ (n_ l_ (.sl 2 0 4 none) l_) (.sl 3 0 2 none) l_) (.sl 4 0 4 none) (n_ (n_ l_ (.sl 5 0 4 none) l_) (.sl 6 0 3 none) l_)) (.sl 7 0 1 none) (n_ (n_ (n_ l_ (.sl 8 0 3 none) l_) (.sl 9 0 1 none) l_) (.sl 10 0 1 none) (n_ l_ (.sl 11 0 3 none) l_))) 10 none false)) .lf)) (some (.ce (n_ (n_ (n_ l_ (vi 9) l_) (vi 8) l_) (vi 8) (n_ l_ (vi 8) l_)) 4 (some 1) false)) (.nd (.nd .lf (some (.ce (n_ l_ (vi 3) l_) 1 (some 1) false)) .lf) (some (.ce (n_ (n_ l_ (vi 6) l_) (vi 6) (n_ l_ (vi 6) l_)) 3 (some 1) false)) .lf))), 14), ((.tu [(.sl 24 0 10 (some 10)), (vi 0)]), (.nd (.nd (.nd (.nd (.nd .lf (some (.ce (n_ (n_ l_ (vi 0) l_) (vi 0) l_) 2 (some 1) true)) .lf) (some (.ce (n_ l_ (vi 1) l_) 1 (some 1) false)) (.nd .lf (some (.ce (n_ (n_ l_ (vi 0) l_) (vi 0) (n_ l_ (vi 0) l_)) 3 (some 1) true)) .lf)) (some (.ce (n_ (n_ l_ (vi 5) l_) (vi 4) l_) 2 (some 1) false)) (.nd (.nd .lf (some (.ce (n_ l_ (vi 0) l_) 1 (some 1) true)) .lf) (some (.ce (n_ (n_ l_ (vi 7) l_) (vi 7) (n_ l_ (vi 7) l_)) 3 (some 1) false)) .lf)) (some (.ce (n_ (n_ (n_ (n_ l_ (vi 4) l_) (vi 2) l_) (vi 4) (n_ (n_ l_ (vi 4) l_) (vi 3) l_)) (vi 1) (n_ (n_ (n_ l_ (vi 3) l_) (vi 1) l_) (vi 1) (n_ l_ (vi 3) l_))) 10 (some 1) false)) (.nd (.nd (.nd .lf (some (.ce (n_ (n_ (n_ l_ (vi 0) l_) (vi 0) l_) (vi 0) (n_ l_ (vi 0) l_)) 4 (some 1) true)) .lf) (some (.ce (n_ l_ (vi 5) l_) 1 (some 1) false)) .lf) (some (.ce (n_ (n_ (n_ l_ (vi 1) l_) (vi 1) l_) (vi 0) (n_ l_ (vi 1) l_)) 4 (some 1) false)) (.nd (.nd .lf (some (.ce (n_ l_ (vi 0) l_) 1 (some 1) true)) .lf) (some (.ce (n_ (n_ (n_ (n_ l_ (vi 0) l_) (vi 0) l_) (vi 0) (n_ (n_ l_ (vi 0) l_) (vi 0) l_)) (vi 0) (n_ (n_ (n_ l_ (vi 0) l_) (vi 0) l_) (vi 0) (n_ l_ (vi 0) l_))) 10 none false)) .lf))) (some (.ce (n_ (n_ (n_ (n_ l_ (vi 3) l_) (vi 1) l_) (vi 7) (n_ (n_ l_ (vi 15) l_) (vi 2) l_)) (vi 0) (n_ (n_ (n_ l_ (vi 22) l_) (vi 12) l_) (vi 16) (n_ l_ (vi 18) l_))) 10 (some 1) false)) (.nd (.nd (.nd (.nd .lf (some (.ce (n_ (n_ (n_ l_ (vi 0) l_) (vi 0) l_) (vi 0) (n_ l_ (vi 0) l_)) 4 (some 1) true)) .lf) (some (.ce (n_ (n_ l_ (vi 9) l_) (vi 9) (n_ l_ (vi 9) l_)) 3 (some 1) false)) (.nd .lf (some (.ce (n_ (n_ (n_ (n_ l_ (.sl 14 0 4 none) l_) (.sl 15 0 2 none) l_) (.sl 16 0 4 none) (n_ (n_ l_ (.sl 17 0 4 none) l_) (.sl 18 0 3 none) l_)) (.sl 19 0 1 none) (n_ (n_ (n_ l_ (.sl 20 0 3 none) l_) (.sl 21 0 1 none) l_) (.sl 22 0 1 none) (n_ l_ (.sl 23 0 3 none) l_))) 10 none true)) .lf)) (some (.ce (n_ (n_ (n_ l_ (vi 7) l_) (vi 3) l_) (vi 2) (n_ l_ (vi 5) l_)) 4 (some 1) false)) (.nd (.nd .lf (some (.ce (n_ (n_ l_ (vi 0) l_) (vi 0) (n_ l_ (vi 0) l_)) 3 (some 1) true)) .lf) (some (.ce (n_ (n_ (n_ (n_ l_ (.sl 2 0 4 none) l_) (.sl 3 0 2 none) l_) (.sl 4 0 4 none) (n_ (n_ l_ (.sl 5 0 4 none) l_) (.sl 6 0 3 none) l_)) (.sl 7 0 1 none) (n_ (n_ (n_ l_ (.sl 8 0 3 none) l_) (.sl 9 0 1 none) l_) (.sl 10 0 1 none) (n_ l_ (.sl 11 0 3 none) l_))) 10 none false)) .lf)) (some (.ce (n_ (n_ (n_ l_ (vi 9) l_) (vi 8) l_) (vi 8) (n_ l_ (vi 8) l_)) 4 (some 1) false)) (.nd (.nd (.nd .lf (some (.ce (n_ (n_ l_ (vi 0) l_) (vi 0) (n_ l_ (vi 0) l_)) 3 (some 1) true)) .lf) (some (.ce (n_ l_ (vi 3) l_) 1 (some 1) false)) .lf) (some (.ce (n_ (n_ l_ (vi 6) l_) (vi 6) (n_ l_ (vi 6) l_)) 3 (some 1) false)) (.nd (.nd .lf (some (.ce (n_ l_ (vi 0) l_) 1 (some 1) true)) .lf) (some (.ce (n_ (n_ (n_ l_ (vi 0) l_) (vi 0) l_) (vi 0) (n_ l_ (vi 0) l_)) 4 (some 1) true)) .lf)))), 25))
def we13 : MEnt := (19, ([(.ag [(.sl 0 0 10 none), (.sl 1 0 10 none), (.sl 12 0 10 (some 10))]), (.sl 23 0 10 (some 10))], (.nd (.nd (.nd (.nd (.nd .lf (some (.ce (n_ (n_ (n_ l_ (vi 0) l_) (vi 0) l_) (vi 0) (n_ l_ (vi 0) l_)) 4 (some 1) false)) .lf) (some (.ce (n_ l_ (vi 1) l_) 1 (some 1) false)) (.nd .lf (some (.ce (n_ (n_ (n_ (n_ l_ (.sl 13 0 4 none) l_) (.sl 14 0 2 none) l_) (.sl 15 0 4 none) (n_ (n_ l_ (.sl 16 0 4 none) l_) (.sl 17 0 3 none) l_)) (.sl 18 0 1 none) (n_ (n_ (n_ l_ (.sl 19 0 3 none) l_) (.sl 20 0 1 none) l_) (.sl 21 0 1 none) (n_ l_ (.sl 22 0 3 none) l_))) 10 none false)) .lf)) (some (.ce (n_ (n_ l_ (vi 5) l_) (vi 4) l_) 2 (some 1) false)) (.nd (.nd .lf (some (.ce (n_ (n_ l_ (vi 0) l_) (vi 0) (n_ l_ (vi 0) l_)) 3 (some 1) false)) .lf) (some (.ce (n_ (n_ l_ (vi 7) l_) (vi 7) (n_ l_ (vi 7) l_)) 3 (some 1) false)) .lf)) (some (.ce (n_ (n_ (n_ (n_ l_ (vi 4) l_) (vi 2) l_) (vi 4) (n_ (n_ l_ (vi 4) l_) (vi 3) l_)) (vi 1) (n_ (n_ (n_ l_ (vi 3) l_) (vi 1) l_) (vi 1) (n_ l_ (vi 3) l_))) 10 (some 1) false)) (.nd (.nd (.nd .lf (some (.ce (n_ (n_ l_ (vi 0) l_) (vi 0) (n_ l_ (vi 0) l_)) 3 (some 1) false)) .lf) (some (.ce (n_ l_ (vi 5) l_) 1 (some 1) false)) .lf) (some (.ce (n_ (n_ (n_ l_ (vi 1) l_) (vi 1) l_) (vi 0) (n_ l_ (vi 1) l_)) 4 (some 1) false)) (.nd (.nd .lf (some (.ce (n_ l_ (vi 0) l_) 1 (some 1) false)) .lf) (some (.ce (n_ (n_ (n_ l_ (vi 0) l_) (vi 0) l_) (vi 0) (n_ l_ (vi 0) l_)) 4 (some 1) false)) .lf))) (some (.ce (n_ (n_ (n_ (n_ l_ (vi 3) l_) (vi 1) l_) (vi 7) (n_ (n_ l_ (vi 15) l_) (vi 2) l_)) (vi 0) (n_ (n_ (n_ l_ (vi 22) l_) (vi 12) l_) (vi 16) (n_ l_ (vi 18) l_))) 10 (some 1) false)) (.nd (.nd (.nd (.nd .lf (some (.ce (n_ (n_ (n_ l_ (vi 0) l_) (vi 0) l_) (vi 0) (n_ l_ (vi 0) l_)) 4 (some 1) false)) .lf) (some (.ce (n_ (n_ l_ (vi 9) l_) (vi 9) (n_ l_ (vi 9) l_)) 3 (some 1) false)) .lf) (some (.ce (n_ (n_ (n_ l_ (vi 7) l_) (vi 3) l_) (vi 2) (n_ l_ (vi 5) l_)) 4 (some 1) false)) (.nd (.nd .lf (some (.ce (n_ l_ (vi 0) l_) 1 (some 1) false)) .lf) (some (.ce (n_ (n_ (n_ (n_ l_ (.sl 2 0 4 none) l_) (.sl 3 0 2 none) l_) (.sl 4 0 4 none) (n_ (n_ l_ (.sl 5 0 4 none) l_) (.sl 6 0 3 none) l_)) (.sl 7 0 1 none) (n_ (n_ (n_ l_ (.sl 8 0 3 none) l_) (.sl 9 0 1 none) l_) (.sl 10 0 1 none) (n_ l_ (.sl 11 0 3 none) l_))) 10 none false)) .lf)) (some (.ce (n_ (n_ (n_ l_ (vi 9) l_) (vi 8) l_) (vi 8) (n_ l_ (vi 8) l_)) 4 (some 1) false)) (.nd (.nd (.nd .lf (some (.ce (n_ l_ (vi 0) l_) 1 (some 1) false)) .lf) (some (.ce (n_ l_ (vi 3) l_) 1 (some 1) false)) .lf) (some (.ce (n_ (n_ l_ (vi 6) l_) (vi 6) (n_ l_ (vi 6) l_)) 3 (some 1) false)) (.nd (.nd .lf (some (.ce (n_ (n_ l_ (vi 0) l_) (vi 0) (n_ l_ (vi 0) l_)) 3 (some 1) false)) .lf) (some (.ce (n_ (n_ l_ (vi 0) l_) (vi 0) l_) 2 (some 1) false)) .lf)))), 24), ((.tu [(vi 0), (vi 0)]), (.nd (.nd (.nd (.nd (.nd .lf (some (.ce (n_ (n_ (n_ l_ (vi 0) l_) (vi 0) l_) (vi 0) (n_ l_ (vi 0) l_)) 4 (some 1) false)) .lf) (some (.ce (n_ l_ (vi 1) l_) 1 (some 1) false)) (.nd .lf (some (.ce (n_ (n_ (n_ (n_ l_ (.sl 13 0 4 none) l_) (.sl 14 0 2 none) l_) (.sl 15 0 4 none) (n_ (n_ l_ (.sl 16 0 4 none) l_) (.sl 17 0 3 none) l_)) (.sl 18 0 1 none) (n_ (n_ (n_ l_ (.sl 19 0 3 none) l_) (.sl 20 0 1 none) l_) (.sl 21 0 1 none) (n_ l_ (.sl 22 0 3 none) l_))) 10 none false)) .lf)) (some (.ce (n_ (n_ l_ (vi 5) l_) (vi 4) l_) 2 (some 1) false)) (.nd (.nd .lf (some (.ce (n_ (n_ l_ (vi 0) l_) (vi 0) (n_ l_ (vi 0) l_)) 3 (some 1) false)) .lf) (some (.ce (n_ (n_ l_ (vi 7) l_) (vi 7) (n_ l_ (vi 7) l_)) 3 (some 1) false)) .lf)) (some (.ce (n_ (n_ (n_ (n_ l_ (vi 4) l_) (vi 2) l_) (vi 4) (n_ (n_ l_ (vi 4) l_) (vi 3) l_)) (vi 1) (n_ (n_ (n_ l_ (vi 3) l_) (vi 1) l_) (vi 1) (n_ l_ (vi 3) l_))) 10 (some 1) false)) (.nd (.nd (.nd .lf (some (.ce (n_ (n_ l_ (vi 0) l_) (vi 0) (n_ l_ (vi 0) l_)) 3 (some 1) false)) .lf) (some (.ce (n_ l_ (vi 5) l_) 1 (some 1) false)) .lf) (some (.ce (n_ (n_ (n_ l_ (vi 1) l_) (vi 1) l_) (vi 0) (n_ l_ (vi 1) l_)) 4 (some 1) false)) (.nd (.nd .lf (some (.ce (n_ l_ (vi 0) l_) 1 (some 1) false)) .lf) (some (.ce (n_ (n_ (n_ l_ (vi 0) l_) (vi 0) l_) (vi 0) (n_ l_ (vi 0) l_)) 4 (some 1) false)) .lf))) (some (.ce (n_ (n_ (n_ (n_ l_ (vi 3) l_) (vi 1) l_) (vi 7) (n_ (n_ l_ (vi 15) l_) (vi 2) l_)) (vi 0) (n_ (n_ (n_ l_ (vi 22) l_) (vi 12) l_) (vi 16) (n_ l_ (vi 18) l_))) 10 (some 1) false)) (.nd (.nd (.nd (.nd .lf (some (.ce (n_ (n_ (n_ l_ (vi 0) l_) (vi 0) l_) (vi 0) (n_ l_ (vi 0) l_)) 4 (some 1) false)) .lf) (some (.ce (n_ (n_ l_ (vi 9) l_) (vi 9) (n_ l_ (vi 9) l_)) 3 (some 1) false)) .lf) (some (.ce (n_ (n_ (n_ l_ (vi 7) l_) (vi 3) l_) (vi 2) (n_ l_ (vi 5) l_)) 4 (some 1) false)) (.nd (.nd .lf (some (.ce (n_ l_ (vi 0) l_) 1 (some 1) false)) .lf) (some (.ce (n_ (n_ (n_ (n_ l_ (.sl 2 0 4 none) l_) (.sl 3 0 2 none) l_) (.sl 4 0 4 none) (n_ (n_ l_ (.sl 5 0 4 none) l_) (.sl 6 0 3 none) l_)) (.sl 7 0 1 none) (n_ (n_ (n_ l_ (.sl 8 0 3 none) l_) (.sl 9 0 1 none) l_) (.sl 10 0 1 none) (n_ l_ (.sl 11 0 3 none) l_))) 10 none false)) .lf)) (some (.ce (n_ (n_ (n_ l_ (vi 9) l_) (vi 8) l_) (vi 8) (n_ l_ (vi 8) l_)) 4 (some 1) false)) (.nd (.nd (.nd .lf (some (.ce (n_ l_ (vi 0) l_) 1 (some 1) false)) .lf) (some (.ce (n_ l_ (vi 3) l_) 1 (some 1) false)) .lf) (some (.ce (n_ (n_ l_ (vi 6) l_) (vi 6) (n_ l_ (vi 6) l_)) 3 (some 1) false)) (.nd (.nd .lf (some (.ce (n_ (n_ l_ (vi 0) l_) (vi 0) (n_ l_ (vi 0) l_)) 3 (some 1) false)) .lf) (some (.ce (n_ (n_ l_ (vi 0) l_) (vi 0) l_) 2 (some 1) false)) .lf)))), 24))
def we14 : MEnt := (22, ([(.ag [(vi 5), (.sl 2 0 2 none)]), (vi 3)], (.nd (.nd .lf (some (.ce (n_ (n_ (n_ (n_ l_ (vi 3) l_) (vi 1) l_) (vi 7) (n_ (n_ l_ (vi 15) l_) (vi 2) l_)) (vi 0) (n_ (n_ (n_ l_ (vi 22) l_) (vi 12) l_) (vi 16) (n_ l_ (vi 18) l_))) 10 (some 1) false)) .lf) (some (.ce (n_ l_ (vi 4) l_) 1 none false)) (.nd .lf (some (.ce (n_ (n_ l_ (.sl 0 0 1 (some 1)) l_) (.sl 1 0 10 none) l_) 2 (some 1) false)) .lf)), 3), ((.tu [(vi 4), (vi 0)]), (.nd (.nd .lf (some (.ce (n_ (n_ (n_ (n_ l_ (vi 3) l_) (vi 1) l_) (vi 7) (n_ (n_ l_ (vi 15) l_) (vi 2) l_)) (vi 0) (n_ (n_ (n_ l_ (vi 22) l_) (vi 12) l_) (vi 16) (n_ l_ (vi 18) l_))) 10 (some 1) false)) .lf) (some (.ce (n_ l_ (vi 4) l_) 1 none false)) (.nd .lf (some (.ce (n_ (n_ l_ (.sl 0 0 1 (some 1)) l_) (.sl 1 0 10 none) l_) 2 (some 1) false)) .lf)), 3))
def we15 : MEnt := (29, ([(.ag [(vi 5), (.sl 0 0 3 none)]), (.sl 1 0 1 (some 1))], (.nd (.nd .lf (some (.ce (n_ (n_ l_ (vi 0) l_) (vi 1) l_) 2 none false)) .lf) (some (.ce (n_ (n_ (n_ (n_ l_ (vb true) l_) (vb true) (n_ l_ (vb true) l_)) (vi 2) (n_ (n_ l_ (vi 3) l_) (vi 2) l_)) (vi 0) (n_ (n_ (n_ l_ (vi 2) l_) (vi 1) l_) (vi 0) (n_ (n_ l_ (vi 0) l_) (vi 0) l_))) 12 (some 4) false)) .lf), 2), ((.tu [(.ag [(vi 5), (.sl 2 0 4 none)]), (vi 1), (vi 0)]), (.nd (.nd .lf (some (.ce (n_ (n_ l_ (vi 0) l_) (vi 1) l_) 2 none false)) .lf) (some (.ce (n_ (n_ (n_ (n_ l_ (vb true) l_) (vb true) (n_ l_ (vb true) l_)) (vi 2) (n_ (n_ l_ (vi 3) l_) (vi 2) l_)) (vi 0) (n_ (n_ (n_ l_ (vi 2) l_) (vi 1) l_) (vi 0) (n_ (n_ l_ (vi 0) l_) (vi 0) l_))) 12 (some 4) false)) (.nd .lf (some (.ce (n_ (n_ (n_ (n_ (n_ l_ (vb true) l_) (vb true) l_) (vb false) (n_ l_ (vb true) l_)) (vi 1) (n_ (n_ l_ (vi 2) l_) (vi 2) (n_ l_ (vi 3) l_))) (vi 0) (n_ (n_ (n_ l_ (vi 1) l_) (vi 0) (n_ l_ (vi 2) l_)) (vi 0) (n_ (n_ l_ (vi 0) l_) (vi 0) (n_ l_ (vi 0) l_)))) 16 (some 4) true)) .lf)), 3))
def we16 : MEnt := (30, ([(.ag [(vi 5), (.sl 0 0 4 none)]), (.sl 1 0 1 (some 1))], (.nd (.nd .lf (some (.ce (n_ (n_ l_ (vi 0) l_) (vi 1) l_) 2 none false)) .lf) (some (.ce (n_ (n_ (n_ (n_ (n_ l_ (vb true) l_) (vb true) l_) (vb false) (n_ l_ (vb true) l_)) (vi 1) (n_ (n_ l_ (vi 2) l_) (vi 2) (n_ l_ (vi 3) l_))) (vi 0) (n_ (n_ (n_ l_ (vi 1) l_) (vi 0) (n_ l_ (vi 2) l_)) (vi 0) (n_ (n_ l_ (vi 0) l_) (vi 0) (n_ l_ (vi 0) l_)))) 16 (some 4) false)) .lf), 2), ((.tu [(.ag [(vi 5), (.sl 2 0 3 none)]), (.sl 3 0 1 none), (vi 0)]), (.nd (.nd (.nd .lf (some (.ce (n_ (n_ (n_ l_ (vi 0) l_) (vb false) l_) (vb false) (n_ (n_ l_ (vi 0) l_) (vi 0) l_)) 5 (some 5) true)) .lf) (some (.ce (n_ (n_ l_ (vi 0) l_) (vi 1) l_) 2 none false)) .lf) (some (.ce (n_ (n_ (n_ (n_ (n_ l_ (vb true) l_) (vb true) l_) (vb false) (n_ l_ (vb true) l_)) (vi 1) (n_ (n_ l_ (vi 2) l_) (vi 2) (n_ l_ (vi 3) l_))) (vi 0) (n_ (n_ (n_ l_ (vi 1) l_) (vi 0) (n_ l_ (vi 2) l_)) (vi 0) (n_ (n_ l_ (vi 0) l_) (vi 0) (n_ l_ (vi 0) l_)))) 16 (some 4) false)) (.nd .lf (some (.ce (n_ (n_ (n_ (n_ l_ (vb true) l_) (vb true) (n_ l_ (vb true) l_)) (vi 2) (n_ (n_ l_ (vi 3) l_) (vi 2) l_)) (vi 0) (n_ (n_ (n_ l_ (vi 2) l_) (vi 1) l_) (vi 0) (n_ (n_ l_ (vi 0) l_) (vi 0) l_))) 12 (some 4) true)) .lf)), 4))
theorem wMay_ok : mayOk Tryz.prog.funcs.toList 69992089942651254108360146112192201489805003123099121611023720250168740418746460188169609882302939132 = true := by kernel_rfl
theorem wMay_lt : (69992089942651254108360146112192201489805003123099121611023720250168740418746460188169609882302939132 : Nat) < 2 ^ Tryz.prog.funcs.toList.length := of_decide_eq_true (by kernel_rfl)
def wf109 : Func := (atL wFs 109).getD default
theorem wf109_ok : Tryz.prog.funcs[109]? = some wf109 := by kernel_rfl
theorem wi109 (u : Nat → Value) : idleRun T (callK T wE0 (memK []) 100) 100 wf109 u = some 0 := by kernel_rfl
def wf106 : Func := (atL wFs 106).getD default
theorem wf106_ok : Tryz.prog.funcs[106]? = some wf106 := by kernel_rfl
theorem wi106 (u : Nat → Value) : idleRun T (callK T wE0 (memK []) 100) 100 wf106 u = some 0 := by kernel_rfl
theorem wE0_ok (w : World) : EOk Tryz.prog w wE0 := envOk rfl wMay_ok wMay_lt fun f h => by
 have : (Nat.testBit 0 f) = true := h
 simp at this
theorem wE_ok {w0 : World} (hG : ∀ b o u, GT b o u → w0.cell? ⟨b, o, none⟩ = some u) : EOk Tryz.prog w0 wE := envOk rfl wMay_ok wMay_lt fun f h cap => by
 have hc : ∀ w, Ext w0 w → CallOK Tryz.prog w (callK T wE0 (memK []) 100 (R := Nat)) := fun w hw => callK_ok mixed tOk (fun b o u h => hw.cell (hG b o u h)) (wE0_ok w) MOk.nil 100
 have hf : f = 109 ∨ f = 106 := by
  have h2 : Nat.testBit (2 ^ 109 + 2 ^ 106) f = true := h
  have hlt : f < 128 := by
   by_cases h0 : f < 128
   · exact h0
   · rw [Nat.testBit_lt_two_pow (Nat.lt_of_lt_of_le (by decide : 2 ^ 109 + 2 ^ 106 < 2 ^ 128) (Nat.pow_le_pow_right (by decide) (Nat.le_of_not_lt h0)))] at h2
     cases h2
  have key : ∀ f, f < 128 → Nat.testBit (2 ^ 109 + 2 ^ 106) f = true → f = 109 ∨ f = 106 := by decide
  exact key f hlt h2
 rcases hf with rfl | rfl
 · exact idle_of_run' mixed tOk hG hc (enters_of_may wMay_ok wMay_lt 109 (by decide)) wf109_ok wi109 cap
 · exact idle_of_run' mixed tOk hG hc (enters_of_may wMay_ok wMay_lt 106 (by decide)) wf106_ok wi106 cap
end
end
end Go.Proofs.YtpccioglcgobkaaGreatDoor
