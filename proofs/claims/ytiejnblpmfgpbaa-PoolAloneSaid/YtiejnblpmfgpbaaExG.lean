/- Contracts, calls; one operation. -/
import Derived.Test.YtiejnblpmfgpbaaExF
set_option linter.unusedVariables false
set_option linter.unusedSimpArgs false
namespace Go.Proofs.Ytiejnblpmfgpbaa
open Go Go.RowKit

/-! ### tuples of values of codes -/
@[reducible] def Tup : List Sc → Type
  | [] => Unit
  | [s] => s.Val
  | s :: t :: r => s.Val × Tup (t :: r)
def splitT : (cs : List Sc) → Tup cs → List EV
  | [], _ => []
  | [s], x => [.sc s x]
  | s :: t :: r, x => .sc s x.1 :: splitT (t :: r) x.2
def joinT : (cs : List Sc) → List EV → Option (Tup cs)
  | [], [] => some ()
  | [], _ :: _ => none
  | [s], c :: cs => match c, cs with
    | .sc s' x, [] => castS s' s x
    | _, _ => none
  | s :: t :: r, c :: cs => match c with
    | .sc s' x => match castS s' s x with
      | some a => match joinT (t :: r) cs with
        | some b => some (a, b)
        | none => none
      | none => none
    | _ => none
  | _ :: _, [] => none
theorem joinT_ok : ∀ {cs : List Sc} {l : List EV} {x : Tup cs}, joinT cs l = some x → l = splitT cs x
  | [], [], x, h => rfl
  | [], _ :: _, x, h => by simp [joinT] at h
  | [s], [], x, h => by simp [joinT] at h
  | [s], c :: cs, x, h => by
    simp only [joinT] at h
    split at h
    · obtain ⟨rfl, rfl⟩ := castS_ok h
      rfl
    · cases h
  | s :: t :: r, [], x, h => by simp [joinT] at h
  | s :: t :: r, c :: cs, x, h => by
    simp only [joinT] at h
    split at h
    · split at h
      · rename_i a ha
        split at h
        · rename_i b hb
          obtain ⟨rfl, rfl⟩ := castS_ok ha
          have := joinT_ok hb
          cases h
          rw [this]; rfl
        · cases h
      · cases h
    · cases h

/-! ### patterns -/
/-- an argument: a value of one cell, of a code; a struct, cell by cell; a function -/
inductive PA where
  | h (s : Sc)
  | ag (ss : List Sc)
  | fn (f : FuncId)
def codesA : List PA → List Sc
  | [] => []
  | .h s :: ps => s :: codesA ps
  | .ag ss :: ps => ss ++ codesA ps
  | .fn _ :: ps => codesA ps
def mkA : List PA → List EV → List EV
  | [], _ => []
  | .h _ :: ps, cs => cs.headD .un :: mkA ps cs.tail
  | .ag ss :: ps, cs => .ag (cs.take ss.length) :: mkA ps (cs.drop ss.length)
  | .fn f :: ps, cs => .v (.func (.func f) #[] #[]) :: mkA ps cs
def lendL (hg : Nat → Option EOb) : List Sc → List EV → Option (List EV × EHp × List Nat)
  | [], [] => some ([], [], [])
  | s :: ss, c :: cs => match lendS hg s c with
    | some (x, os, us) => match lendL hg ss cs with
      | some (xs, os2, us2) => some (.sc s x :: xs, os2 ++ os, us ++ us2)
      | none => none
    | none => none
  | _, _ => none
def argA (hg : Nat → Option EOb) : List PA → List EV → Option (List EV × EHp × List Nat)
  | [], [] => some ([], [], [])
  | .h s :: ps, c :: cs => match lendS hg s c with
    | some (x, os, us) => match argA hg ps cs with
      | some (xs, os2, us2) => some (.sc s x :: xs, os2 ++ os, us ++ us2)
      | none => none
    | none => none
  | .ag ss :: ps, c :: cs => match c with
    | .ag ds => match lendL hg ss ds with
      | some (x, os, us) => match argA hg ps cs with
        | some (xs, os2, us2) => some (x ++ xs, os2 ++ os, us ++ us2)
        | none => none
      | none => none
    | _ => none
  | .fn f :: ps, c :: cs => match c with
    | .v (.func (.func g) ⟨[]⟩ ⟨[]⟩) => cond (Nat.beq f g) (argA hg ps cs) none
    | _ => none
  | _, _ => none
/-- a value: of a code; this one; a struct; several -/
inductive PV where
  | h (s : Sc)
  | t (r : Sc)
  | k (c : EV)
  | ag (l : List PV)
  | tu (l : List PV)
def tightE : EV → EV
  | .sc (.sl r) xs => .ts r xs
  | _ => .un
mutual
def fillP : PV → List EV → EV × List EV
  | .h _, cs => (cs.headD .un, cs.tail)
  | .t _, cs => (tightE (cs.headD .un), cs.tail)
  | .k c, cs => (c, cs)
  | .ag l, cs => (.ag (fillPs l cs).1, (fillPs l cs).2)
  | .tu l, cs => (.tu (fillPs l cs).1, (fillPs l cs).2)
def fillPs : List PV → List EV → List EV × List EV
  | [], cs => ([], cs)
  | p :: ps, cs => ((fillP p cs).1 :: (fillPs ps (fillP p cs).2).1, (fillPs ps (fillP p cs).2).2)
end
inductive PO where
  | box (t : TypeId) (l : List PV)
  | arr (t : TypeId) (r : Sc) (wr : Bool)
  | mp (d : TypeDesc) (kc vc : Sc)
def arrE (t : TypeId) (r : Sc) (wr : Bool) : EV → Option EOb
  | .sc s x => match castS s (.sl r) x with
    | some xs => some (.arr t r xs wr)
    | none => none
  | _ => none
def mpE (d : TypeDesc) (kc vc : Sc) : EV → Option EOb
  | .sc s x => match castS s (.sl (.pr kc vc)) x with
    | some xs => some (.mp d kc vc xs)
    | none => none
  | _ => none
def fillO : PO → List EV → Option EOb × List EV
  | .box t l, cs => (some (.box t (fillPs l cs).1), (fillPs l cs).2)
  | .arr t r wr, cs => (arrE t r wr (cs.headD .un), cs.tail)
  | .mp d kc vc, cs => (mpE d kc vc (cs.headD .un), cs.tail)
def fillH : List (Nat × PO) → List EV → EHp
  | [], _ => []
  | (k, o) :: h, cs => (k, (fillO o cs).1) :: fillH h (fillO o cs).2

/-! ### contracts -/
structure Ctr where
  f : FuncId
  ps : List PA
  rc : List Sc
  M : Tup (codesA ps) → Option (Tup rc)
  R : Tup rc → EV
  own : Bool
  H : Tup rc → EHp
def Ctr.ok (P : Program) (c : Ctr) : Prop :=
  (c.own = false → ∀ y, c.H y = []) ∧ ∀ x y, c.M x = some y → RC P c.f (encL (mkA c.ps (splitT _ x))) (encH (c.H y)) (enc (c.R y))
/-! names, turned -/
mutual
def renE (π : Nat → Nat) : EV → EV
  | .un => .un
  | .sc s x => .sc s x
  | .nil => .nil
  | .ts r xs => .ts r xs
  | .v x => .v x
  | .ow k => .ow (π k)
  | .pt k o => .pt (π k) o
  | .pe k i sz o => .pe (π k) i sz o
  | .mp k => .mp (π k)
  | .fp cs => .fp cs
  | .ag cs => .ag (renEs π cs)
  | .tu cs => .tu (renEs π cs)
  | .cl fn fs cs => .cl fn (renEs π fs) (renEs π cs)
def renEs (π : Nat → Nat) : List EV → List EV
  | [] => []
  | c :: cs => renE π c :: renEs π cs
end
mutual
theorem enc_ren (π : Nat → Nat) : ∀ c : EV, enc (renE π c) = (enc c).ren π
  | .un => rfl
  | .sc s x => by cases s <;> rfl
  | .nil => rfl
  | .ts r xs => rfl
  | .v x => rfl
  | .ow k => rfl
  | .pt k o => rfl
  | .pe k i sz o => rfl
  | .mp k => rfl
  | .fp cs => rfl
  | .ag cs => by simp only [renE, enc, AV.ren, encL_ren π cs]
  | .tu cs => by simp only [renE, enc, AV.ren, encL_ren π cs]
  | .cl fn fs cs => by simp only [renE, enc, AV.ren, encL_ren π cs, encL_ren π fs]
theorem encL_ren (π : Nat → Nat) : ∀ cs : List EV, encL (renEs π cs) = AV.renL π (encL cs)
  | [] => rfl
  | c :: cs => by simp only [renEs, encL, AV.renL, enc_ren π c, encL_ren π cs]
end
def renO (π : Nat → Nat) : EOb → EOb
  | .box t cs => .box t (renEs π cs)
  | .arr t r xs wr => .arr t r xs wr
  | .mp d kc vc es => .mp d kc vc es
def renEH (π : Nat → Nat) : EHp → EHp
  | [] => []
  | (k, o) :: h => (π k, match o with
    | some o => some (renO π o)
    | none => none) :: renEH π h
theorem encH_ren (π : Nat → Nat) : ∀ h : EHp, encH (renEH π h) = hren π (encH h)
  | [] => rfl
  | (k, o) :: h => by
    have : ∀ o : EOb, encO (renO π o) = (encO o).ren π := fun o => by
      cases o with
      | box t cs => simp only [renO, encO, Ob.ren, encL_ren]
      | arr => rfl
      | mp => rfl
    cases o with
    | none => simp only [renEH, encH, hren, Option.map, encH_ren π h]
    | some o => simp only [renEH, encH, hren, Option.map, encH_ren π h, this]

def exCtr (hg : Nat → Option EOb) (d : Nat) (c : Ctr) (as : List EV) {R : Type} (k : EV → EHp → List Nat → Fr → Option R) : Option (Option R) :=
  match argA hg c.ps as with
  | some (hs, os, us) => match joinT (codesA c.ps) hs with
    | some x => some (obind (c.M x) fun y => cond c.own
      (cond (smallH (encH (c.H y)) && (enc (c.R y)).nom (fun k => !Nat.blt k 1000))
        (k (renE ((1000 * (d + 1)) + ·) (c.R y)) (renEH ((1000 * (d + 1)) + ·) (c.H y) ++ os) us (.blk (1000 * (d + 1)))) none)
      (cond ((enc (c.R y)).nom fun _ => true) (k (c.R y) os us .no) none))
    | none => none
  | none => none
def exCall (hg : Nat → Option EOb) (d : Nat) (f : FuncId) (as : List EV) {R : Type} (k : EV → EHp → List Nat → Fr → Option R) : List Ctr → Option R
  | [] => none
  | c :: cs => cond (Nat.beq c.f f) (match exCtr hg d c as k with
    | some r => r
    | none => exCall hg d f as k cs) (exCall hg d f as k cs)
def fnE (ev : Nat → EV) : Operand → Option FuncId
  | .func f => some f
  | .tmp i => match ev i with
    | .v (.func (.func g) ⟨[]⟩ ⟨[]⟩) => some g
    | _ => none
  | _ => none
def exO (T : TypeId → TInfo) (CT : List Ctr) (n : Nat) (ev : Nat → EV) (hg : Nat → Option EOb) (o : Oper) {R : Type} (k : EV → EHp → List Nat → Fr → Option R) : Option R :=
  match o.dst with
  | some d => cond (Nat.blt d n) (match o.op with
    | .call ⟨.value f, args, _⟩ => match fnE ev f with
      | some f => exCall hg d f (args.toList.map (evx ev)) k CT
      | none => none
    | .box t x => exM T ev hg d (.box t x) k
    | .alloc t => exM T ev hg d (.alloc t) k
    | .makeSlice t x y => exM T ev hg d (.makeSlice t x y) k
    | .makeMap t x => exM T ev hg d (.makeMap t x) k
    | .slice t x lo hi mx => exM T ev hg d (.slice t x lo hi mx) k
    | .buildSlice t len ps => exM T ev hg d (.buildSlice t len ps) k
    | .call ⟨.builtin .append, args, ts⟩ => exM T ev hg d (.call ⟨.builtin .append, args, ts⟩) k
    | op => exR T ev hg op fun c us => k c [] us .no) none
  | none => match o.op with
    | .store t x y => exStore T ev hg t x y fun os us => k .un os us .no
    | .mapUpdate t x y v => exMapPut T ev hg t x y v fun os us => k .un os us .no
    | _ => none

section
variable {P : Program} {T : TypeId → TInfo} {ev : Nat → EV} {hg : Nat → Option EOb} {n d : Nat} {ty : TypeId} {pos : String} {af : Array Edge} {gd : Option (Nat × Bool)}
theorem lendL_ok : ∀ {ss : List Sc} {cs hs : List EV} {os : EHp} {us us' : List Nat} {h : Hp}, lendL hg ss cs = some (hs, os, us) → HC hg us' h → (∀ k, us.contains k = true → us'.contains k = true) →
    (∃ as, lendCs h (encL cs) = some (encH os ++ h, as) ∧ WkL as (encL hs)) ∧ OsOk hg os ∧ hs.length = ss.length
  | [], [], hs, os, us, us', h, hl, hh, hu => by
    simp only [lendL, Option.some.injEq, Prod.mk.injEq] at hl
    obtain ⟨rfl, rfl, rfl⟩ := hl
    exact ⟨⟨[], rfl, .nil⟩, fun k o hm => (by cases hm), rfl⟩
  | s :: ss, c :: cs, hs, os, us, us', h, hl, hh, hu => by
    simp only [lendL] at hl
    split at hl
    · rename_i x os1 us1 hx
      split at hl
      · rename_i xs os2 us2 hxs
        simp only [Option.some.injEq, Prod.mk.injEq] at hl
        obtain ⟨rfl, rfl, rfl⟩ := hl
        obtain ⟨⟨c1, g1, g2⟩, g3⟩ := lendS_ok hx hh (fun k hk => hu k (by simp at hk ⊢; exact .inl hk))
        obtain ⟨⟨as, q1, q2⟩, q3, q4⟩ := lendL_ok hxs (hh.put g3 fun k h => h) (fun k hk => hu k (by simp at hk ⊢; exact .inr hk))
        refine ⟨⟨c1 :: as, ?_, .cons g2 q2⟩, fun k o hm => ?_, by simp [q4]⟩
        · rw [encH_append, List.append_assoc]
          simp only [encL, lendCs, g1, q1]
        · rcases List.mem_append.1 hm with hm | hm
          · exact q3 k o hm
          · exact g3 k o hm
      · cases hl
    · cases hl
  | [], _ :: _, hs, os, us, us', h, hl, hh, hu => by simp [lendL] at hl
  | _ :: _, [], hs, os, us, us', h, hl, hh, hu => by simp [lendL] at hl
theorem argA_ok : ∀ {ps : List PA} {cs hs : List EV} {os : EHp} {us us' : List Nat} {h : Hp}, argA hg ps cs = some (hs, os, us) → HC hg us' h → (∀ k, us.contains k = true → us'.contains k = true) →
    (∃ as, lendAs h (encL cs) = some (encH os ++ h, as) ∧ WkL as (encL (mkA ps hs))) ∧ OsOk hg os ∧ ∀ c ∈ cs, c ≠ .un
  | [], [], hs, os, us, us', h, hl, hh, hu => by
    simp only [argA, Option.some.injEq, Prod.mk.injEq] at hl
    obtain ⟨rfl, rfl, rfl⟩ := hl
    exact ⟨⟨[], rfl, .nil⟩, fun k o hm => (by cases hm), fun c hc => by cases hc⟩
  | .h s :: ps, c :: cs, hs, os, us, us', h, hl, hh, hu => by
    simp only [argA] at hl
    split at hl
    · rename_i x os1 us1 hx
      split at hl
      · rename_i xs os2 us2 hxs
        simp only [Option.some.injEq, Prod.mk.injEq] at hl
        obtain ⟨rfl, rfl, rfl⟩ := hl
        obtain ⟨⟨c1, g1, g2⟩, g3⟩ := lendS_ok hx hh (fun k hk => hu k (by simp at hk ⊢; exact .inl hk))
        obtain ⟨⟨as, q1, q2⟩, q3, q4⟩ := argA_ok hxs (hh.put g3 fun k h => h) (fun k hk => hu k (by simp at hk ⊢; exact .inr hk))
        refine ⟨⟨c1 :: as, ?_, .cons g2 q2⟩, fun k o hm => ?_, ?_⟩
        · rw [encH_append, List.append_assoc]
          exact lendAs_cons (lendA_C g1) q1
        · rcases List.mem_append.1 hm with hm | hm
          · exact q3 k o hm
          · exact g3 k o hm
        · intro c' hc'
          rcases List.mem_cons.1 hc' with rfl | hc'
          · intro e; rw [e] at hx; simp [lendS, asS] at hx
          · exact q4 c' hc'
      · cases hl
    · cases hl
  | .ag ss :: ps, c :: cs, hs, os, us, us', h, hl, hh, hu => by
    simp only [argA] at hl
    split at hl
    · rename_i ds
      split at hl
      · rename_i x os1 us1 hx
        split at hl
        · rename_i xs os2 us2 hxs
          simp only [Option.some.injEq, Prod.mk.injEq] at hl
          obtain ⟨rfl, rfl, rfl⟩ := hl
          obtain ⟨⟨c1, g1, g2⟩, g3, g4⟩ := lendL_ok hx hh (fun k hk => hu k (by simp at hk ⊢; exact .inl hk))
          obtain ⟨⟨as, q1, q2⟩, q3, q4⟩ := argA_ok hxs (hh.put g3 fun k h => h) (fun k hk => hu k (by simp at hk ⊢; exact .inr hk))
          refine ⟨⟨.ag c1 :: as, ?_, ?_⟩, fun k o hm => ?_, ?_⟩
          · rw [encH_append, List.append_assoc]
            refine lendAs_cons ?_ q1
            simp only [enc, lendA, g1]
          · simp only [mkA, ← g4, List.take_left, List.drop_left]
            exact .cons (Wk.ag g2) q2
          · rcases List.mem_append.1 hm with hm | hm
            · exact q3 k o hm
            · exact g3 k o hm
          · intro c' hc'
            rcases List.mem_cons.1 hc' with rfl | hc'
            · intro e; cases e
            · exact q4 c' hc'
        · cases hl
      · cases hl
    · cases hl
  | .fn f :: ps, c :: cs, hs, os, us, us', h, hl, hh, hu => by
    simp only [argA] at hl
    split at hl
    · rename_i g
      obtain ⟨h1, h2⟩ := cond_none hl
      have h1 := Nat.eq_of_beq_eq_true h1
      subst h1
      obtain ⟨⟨as, q1, q2⟩, q3, q4⟩ := argA_ok h2 hh hu
      refine ⟨⟨_ :: as, lendAs_cons (lendA_fz rfl) q1, .cons (Wk.refl _) q2⟩, q3, ?_⟩
      intro c' hc'
      rcases List.mem_cons.1 hc' with rfl | hc'
      · intro e; cases e
      · exact q4 c' hc'
    · cases hl
  | [], _ :: _, hs, os, us, us', h, hl, hh, hu => by simp [argA] at hl
  | .h _ :: _, [], hs, os, us, us', h, hl, hh, hu => by simp [argA] at hl
  | .ag _ :: _, [], hs, os, us, us', h, hl, hh, hu => by simp [argA] at hl
  | .fn _ :: _, [], hs, os, us, us', h, hl, hh, hu => by simp [argA] at hl
theorem RC.weak {f : FuncId} {as as' : List AV} {H : Hp} {r : AV} (h : RC P f as H r) (hw : WkL as' as) : RC P f as' H r :=
  ⟨h.1, fun w Rd vs hg hl => h.2 w Rd vs hg (hw.lr hl)⟩

variable {st : St} {K : St → Prop}
theorem run_callVal {x : Operand} {f : FuncId} {args : Array Operand} {ts : Array TypeId} {a : Act} {w : World} (h : Enters P f) (hx : a.eval x = .func (.func f) #[] #[]) :
    (execOp a.eval ⟨some d, .call ⟨.value x, args, ts⟩, ty, pos, af, gd⟩).run P w = .ok (.enter f (args.toList.map a.eval).toArray) w := by
  have := run_callFunc h (args.map a.eval) w
  have e1 : (args.toList.map a.eval).toArray = args.map a.eval := by rw [← Array.toList_map]
  rw [e1]
  simpa [execOp, resolve, hx, Deferred.ofValue, invoke] using this
theorem SS.callV {x : Operand} {f : FuncId} {args : Array Operand} {ts : Array TypeId} (hx : st.ev x = .v (.func (.func f) #[] #[])) (he : Enters P f) (h : SS P ⟨some d, .call ⟨.value (.func f), args, ts⟩, ty, pos, af, gd⟩ st K) :
    SS P ⟨some d, .call ⟨.value x, args, ts⟩, ty, pos, af, gd⟩ st K := by
  intro w0 Rd0 e a w next Q hg hn
  have := h w0 Rd0 e a w next Q hg hn
  unfold Oper.wp at this ⊢
  have hv := hg.ev x
  rw [hx] at hv
  rw [run_callVal he hv.v_inv]
  rw [run_callVal (x := .func f) he rfl] at this
  exact this
theorem ev_map {args : Array Operand} (hs : Sk ev st) (hne : ∀ c ∈ args.toList.map (evx ev), c ≠ .un) : args.toList.map st.ev = encL (args.toList.map (evx ev)) := by
  rw [encL_map, List.map_map]
  refine List.map_congr_left fun x hx => ?_
  exact hs.is rfl (hne _ (List.mem_map.2 ⟨x, hx, rfl⟩))
theorem hkilp_os {p : Nat → Bool} : ∀ {os : EHp} {h : Hp}, OsOk hg os → (∀ k o, (k, o) ∈ os → p k = false) → hkilp p (encH os ++ h) = encH os ++ hkilp p h
  | [], h, _, _ => rfl
  | (k, o) :: os, h, ho, hp => by
    obtain ⟨t, r, xs, wr, h1, rfl⟩ := ho k o (by simp)
    have ih := hkilp_os (os := os) (h := h) (fun k o hm => ho k o (by simp [hm])) (fun k o hm => hp k o (by simp [hm]))
    simp only [encH, List.cons_append, hkilp, ih, hp k _ (by simp : (k, some (EOb.arr t r xs false)) ∈ (k, some (EOb.arr t r xs false)) :: os)]
    rfl
theorem lendS_os {c : EV} {s : Sc} {x : s.Val} {os : EHp} {us : List Nat} (h : lendS hg s c = some (x, os, us)) : ∀ k o, (k, o) ∈ os → us.contains k = true := fun k o hm => lendS_us h (k, o) hm
theorem lendL_us : ∀ {ss : List Sc} {cs hs : List EV} {os : EHp} {us : List Nat}, lendL hg ss cs = some (hs, os, us) → ∀ p ∈ os, us.contains p.1 = true
  | [], [], hs, os, us, h => by
    simp only [lendL, Option.some.injEq, Prod.mk.injEq] at h
    obtain ⟨_, rfl, rfl⟩ := h
    intro p hp; cases hp
  | s :: ss, c :: cs, hs, os, us, h => by
    simp only [lendL] at h
    split at h
    · rename_i hx
      split at h
      · rename_i hxs
        simp only [Option.some.injEq, Prod.mk.injEq] at h
        obtain ⟨_, rfl, rfl⟩ := h
        intro p hp
        simp only [List.contains_eq_mem, List.mem_append, decide_eq_true_eq]
        rcases List.mem_append.1 hp with hp | hp
        · have := lendL_us hxs p hp; simp at this; exact .inr this
        · have := lendS_us hx p hp; simp at this; exact .inl this
      · cases h
    · cases h
  | [], _ :: _, hs, os, us, h => by simp [lendL] at h
  | _ :: _, [], hs, os, us, h => by simp [lendL] at h
theorem argA_us : ∀ {ps : List PA} {cs hs : List EV} {os : EHp} {us : List Nat}, argA hg ps cs = some (hs, os, us) → ∀ p ∈ os, us.contains p.1 = true
  | [], [], hs, os, us, h => by
    simp only [argA, Option.some.injEq, Prod.mk.injEq] at h
    obtain ⟨_, rfl, rfl⟩ := h
    intro p hp; cases hp
  | .h s :: ps, c :: cs, hs, os, us, h => by
    simp only [argA] at h
    split at h
    · rename_i hx
      split at h
      · rename_i hxs
        simp only [Option.some.injEq, Prod.mk.injEq] at h
        obtain ⟨_, rfl, rfl⟩ := h
        intro p hp
        simp only [List.contains_eq_mem, List.mem_append, decide_eq_true_eq]
        rcases List.mem_append.1 hp with hp | hp
        · have := argA_us hxs p hp; simp at this; exact .inr this
        · have := lendS_us hx p hp; simp at this; exact .inl this
      · cases h
    · cases h
  | .ag ss :: ps, c :: cs, hs, os, us, h => by
    simp only [argA] at h
    split at h
    · split at h
      · rename_i hx
        split at h
        · rename_i hxs
          simp only [Option.some.injEq, Prod.mk.injEq] at h
          obtain ⟨_, rfl, rfl⟩ := h
          intro p hp
          simp only [List.contains_eq_mem, List.mem_append, decide_eq_true_eq]
          rcases List.mem_append.1 hp with hp | hp
          · have := argA_us hxs p hp; simp at this; exact .inr this
          · have := lendL_us hx p hp; simp at this; exact .inl this
        · cases h
      · cases h
    · cases h
  | .fn f :: ps, c :: cs, hs, os, us, h => by
    simp only [argA] at h
    split at h
    · obtain ⟨h1, h2⟩ := cond_none h
      exact argA_us h2
    · cases h
  | [], _ :: _, hs, os, us, h => by simp [argA] at h
  | .h _ :: _, [], hs, os, us, h => by simp [argA] at h
  | .ag _ :: _, [], hs, os, us, h => by simp [argA] at h
  | .fn _ :: _, [], hs, os, us, h => by simp [argA] at h
theorem exCtr_ok {c : Ctr} (hc : c.ok P) {args : Array Operand} {ts : Array TypeId} {R : Type} {k : EV → EHp → List Nat → Fr → Option R} {r : R} (hd : d < n) (h : exCtr hg d c (args.toList.map (evx ev)) k = some (some r)) :
    ∃ e os us fr, FS P ⟨some d, .call ⟨.value (.func c.f), args, ts⟩, ty, pos, af, gd⟩ n ev hg e os us fr ∧ k e os us fr = some r ∧ Enters P c.f := by
  unfold exCtr at h
  split at h
  · rename_i hs os us ha
    split at h
    · rename_i x hx
      have hx := joinT_ok hx
      subst hx
      have h := Option.some.inj h
      obtain ⟨y, hy, hk⟩ := obind_some h
      have hrc := hc.2 x y hy
      rcases cond_some hk with ⟨hown, hk⟩ | ⟨hown, hk⟩
      · obtain ⟨g, h2⟩ := cond_none hk
        simp only [Bool.and_eq_true] at g
        refine ⟨_, _, _, _, fun st hn hs hH hf => ?_, h2, hrc.1⟩
        obtain ⟨⟨as, q1, q2⟩, q3, q4⟩ := argA_ok ha hH.hc fun _ h => h
        have hno : ∀ k o, (k, o) ∈ os → (Fr.blk (1000 * (d + 1))).p k = false := fun k o hm => by
          cases hp : (Fr.blk (1000 * (d + 1))).p k with
          | false => rfl
          | true =>
            obtain ⟨t, r', xs, wr, e1, _⟩ := q3 k o hm
            have e2 := hH.at (argA_us ha (k, o) hm) e1
            rw [hf.k k hp] at e2
            cases e2
        have := SS.call (P := P) (args := args) (ts := ts) (ty := ty) (pos := pos) (af := af) (gd := gd) (d := d) (h' := encH os ++ st.h)
          (K := fun s => s = ⟨st.n, tput (some d) (enc (renE ((1000 * (d + 1)) + ·) (c.R y))) (tkilp (inB (1000 * (d + 1))) st.t), encH (renEH ((1000 * (d + 1)) + ·) (c.H y) ++ os) ++ hkilp (inB (1000 * (d + 1))) st.h⟩) (hrc.weak q2) (by rw [ev_map hs q4]; exact q1) g.1 g.2 (by omega) (by
          have := hkilp_os (p := inB (1000 * (d + 1))) (h := st.h) q3 hno
          rw [this, encH_append, encH_ren, enc_ren, List.append_assoc]; rfl)
        exact SS.freshB hf.t hf.h hf.k this
      · rw [hc.1 hown y] at hrc
        obtain ⟨h1, h2⟩ := cond_none hk
        refine ⟨_, _, _, _, fun st hn hs hH hf => ?_, h2, hrc.1⟩
        obtain ⟨⟨as, q1, q2⟩, q3, q4⟩ := argA_ok ha hH.hc fun _ h => h
        exact SS.callF (hrc.weak q2) (by rw [ev_map hs q4]; exact q1) h1 (by omega) rfl
    · cases h
  · cases h
theorem exCall_ok {CT : List Ctr} (hCT : ∀ c ∈ CT, c.ok P) {f : FuncId} {args : Array Operand} {ts : Array TypeId} {R : Type} {k : EV → EHp → List Nat → Fr → Option R} {r : R} (hd : d < n) (h : exCall hg d f (args.toList.map (evx ev)) k CT = some r) :
    ∃ e os us fr, FS P ⟨some d, .call ⟨.value (.func f), args, ts⟩, ty, pos, af, gd⟩ n ev hg e os us fr ∧ k e os us fr = some r ∧ Enters P f := by
  induction CT with
  | nil => cases h
  | cons c cs ih =>
    simp only [exCall] at h
    rcases cond_some h with ⟨h1, h2⟩ | ⟨_, h2⟩
    · have h1 := Nat.eq_of_beq_eq_true h1
      split at h2
      · rename_i rr hr
        subst h1
        subst h2
        exact exCtr_ok (hCT c (by simp)) hd hr
      · exact ih (fun c hc => hCT c (by simp [hc])) h2
    · exact ih (fun c hc => hCT c (by simp [hc])) h2
theorem FS.callV {x : Operand} {f : FuncId} {args : Array Operand} {ts : Array TypeId} {e : EV} {os : EHp} {us : List Nat} {fr : Fr} (hx : fnE ev x = some f) (he : Enters P f) (h : FS P ⟨some d, .call ⟨.value (.func f), args, ts⟩, ty, pos, af, gd⟩ n ev hg e os us fr) :
    FS P ⟨some d, .call ⟨.value x, args, ts⟩, ty, pos, af, gd⟩ n ev hg e os us fr := by
  intro st hn hs hH hf
  have := h st hn hs hH hf
  unfold fnE at hx
  split at hx
  · cases hx
    exact this
  · rename_i i
    split at hx
    · rename_i g hg'
      cases hx
      exact SS.callV (hs.is (x := .tmp i) hg' (by intro e; cases e)) he this
    · cases hx
  · cases hx
theorem exO_ok {CT : List Ctr} (hT : TOk P T) (hCT : ∀ c ∈ CT, c.ok P) {o : Oper} {R : Type} {k : EV → EHp → List Nat → Fr → Option R} {r : R} (h : exO T CT n ev hg o k = some r) :
    ∃ c os us fr, FS P o n ev hg c os us fr ∧ k c os us fr = some r ∧ ∀ d, o.dst = some d → d < n := by
  obtain ⟨dst, op, ty, pos, af, gd⟩ := o
  unfold exO at h
  split at h
  · rename_i d hdst
    simp only at hdst
    subst hdst
    obtain ⟨h1, h2⟩ := cond_none h
    have hd : d < n := Nat.le_of_ble_eq_true h1
    have hdd : ∀ d', some d = some d' → d' < n := fun d' e => by cases e; exact hd
    have mk : (∃ c os us fr, FS P ⟨some d, op, ty, pos, af, gd⟩ n ev hg c os us fr ∧ k c os us fr = some r) → ∃ c os us fr, FS P ⟨some d, op, ty, pos, af, gd⟩ n ev hg c os us fr ∧ k c os us fr = some r ∧ ∀ d', some d = some d' → d' < n := by
      rintro ⟨c, os, us, fr, a, b⟩
      exact ⟨c, os, us, fr, a, b, hdd⟩
    split at h2
    · rename_i f args ts hop
      simp only at hop
      subst hop
      split at h2
      · rename_i f' hf
        obtain ⟨c, os, us, fr, a, b, e⟩ := exCall_ok (ty := ty) (pos := pos) (af := af) (gd := gd) (ts := ts) hCT hd h2
        exact mk ⟨c, os, us, fr, a.callV hf e, b⟩
      · cases h2
    · rename_i hop; simp only at hop; subst hop; exact mk (exM_ok hT hd h2)
    · rename_i hop; simp only at hop; subst hop; exact mk (exM_ok hT hd h2)
    · rename_i hop; simp only at hop; subst hop; exact mk (exM_ok hT hd h2)
    · rename_i hop; simp only at hop; subst hop; exact mk (exM_ok hT hd h2)
    · rename_i hop; simp only at hop; subst hop; exact mk (exM_ok hT hd h2)
    · rename_i hop; simp only at hop; subst hop; exact mk (exM_ok hT hd h2)
    · rename_i hop; simp only at hop; subst hop; exact mk (exM_ok hT hd h2)
    · obtain ⟨c, us, a, b⟩ := exR_ok hT h2
      exact mk ⟨c, _, us, _, FS.read a hd, b⟩
  · rename_i hdst
    simp only at hdst
    subst hdst
    split at h
    · rename_i hop; simp only at hop; subst hop
      obtain ⟨os, us, a, b⟩ := exStore_ok (ty := ty) (pos := pos) (af := af) (gd := gd) hT h
      exact ⟨_, _, _, _, a, b, fun d e => by cases e⟩
    · rename_i hop; simp only at hop; subst hop
      obtain ⟨os, us, a, b⟩ := exMapPut_ok (ty := ty) (pos := pos) (af := af) (gd := gd) hT h
      exact ⟨_, _, _, _, a, b, fun d e => by cases e⟩
    · cases h
end
end Go.Proofs.Ytiejnblpmfgpbaa
