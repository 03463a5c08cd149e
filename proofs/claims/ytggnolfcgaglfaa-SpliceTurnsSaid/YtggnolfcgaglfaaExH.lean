/- Regions: in their order; that draw their order. -/
import Derived.Test.YtggnolfcgaglfaaExG
import Derived.Test.YtggnolfcgaglfaaSymW
set_option linter.unusedVariables false
set_option linter.unusedSimpArgs false
namespace Go.Proofs.Ytggnolfcgaglfaa
open Go Go.RowKit
noncomputable section

theorem condB {b x y : Bool} (h : cond b x y = true) : (b = true ∧ x = true) ∨ (b = false ∧ y = true) := by
  cases b with
  | true => exact .inl ⟨rfl, h⟩
  | false => exact .inr ⟨rfl, h⟩
structure ESt where
  n : Nat
  t : List (Nat × EV)
  h : EHp
def encE (E : ESt) : St := ⟨E.n, encT E.t, encH E.h⟩
def tputE : Option Nat → EV → List (Nat × EV) → List (Nat × EV)
  | some d, c, t => (d, c) :: t
  | none, _, t => t
theorem encT_put (d : Option Nat) (c : EV) (t : List (Nat × EV)) : encT (tputE d c t) = tput d (enc c) (encT t) := by cases d <;> rfl
def nomO (p : Nat → Bool) : EOb → Bool
  | .nr _ _ _ ho => match ho with
    | some (_, some j) => !p j
    | _ => true
  | o => (encO o).nom p
def hnopE (p : Nat → Bool) (h : EHp) : Bool := h.all fun q => !p q.1 && (match q.2 with
  | some o => nomO p o
  | none => true)
theorem nomO_ok {p : Nat → Bool} {o : EOb} (h : nomO p o = true) : (encO o).nom p = true := by
  cases o with
  | nr t r xs ho =>
    refine nomL_all fun c hc => ?_
    have h0 : ∀ c ∈ xs.map (nrA r), c.nom p = true := fun c hc => by
      obtain ⟨x, _, rfl⟩ := List.mem_map.1 hc
      cases x <;> rfl
    match ho, h, hc with
    | none, _, hc => exact h0 c hc
    | some (i, none), _, hc =>
      rcases List.mem_or_eq_of_mem_set hc with hc | rfl
      · exact h0 c hc
      · rfl
    | some (i, some j), h, hc =>
      rcases List.mem_or_eq_of_mem_set hc with hc | rfl
      · exact h0 c hc
      · exact h
  | _ => exact h
theorem hnopE_ok {p : Nat → Bool} : ∀ {h : EHp}, hnopE p h = true → hnop p (encH h) = true
  | [], _ => rfl
  | (k, o) :: h, hh => by
    simp only [hnopE, List.all_cons, Bool.and_eq_true] at hh
    have ih := hnopE_ok (p := p) (h := h) (by simpa [hnopE] using hh.2)
    unfold hnop at ih ⊢
    simp only [encH, List.all_cons, ih, Bool.and_true, Bool.and_eq_true]
    refine ⟨hh.1.1, ?_⟩
    cases o with
    | none => rfl
    | some o => exact nomO_ok hh.1.2
def freshE (fr : Fr) (E : ESt) : Bool := match fr with
  | .no => true
  | .one d => tnop (Fr.one d).p (encT E.t) && hnopE (Fr.one d).p E.h
  | .blk B => tnop (Fr.blk B).p (encT E.t) && hnopE (Fr.blk B).p E.h
theorem Fresh.no {st : St} : Fresh .no st := ⟨fun x => nom_ff _, fun k ob _ => ob.nom_ff, fun k h => by cases h⟩
theorem Fresh.of {fr : Fr} {st : St} (h1 : tnop fr.p st.t = true) (h2 : hnop fr.p st.h = true) : Fresh fr st :=
  ⟨tnop_get h1, fun k ob hk => hnop_obs h2 hk, fun k hk => hget_hin_none (hnop_names h2 hk)⟩
theorem freshE_ok {fr : Fr} {E : ESt} (h : freshE fr E = true) : Fresh fr (encE E) := by
  cases fr with
  | no => exact Fresh.no
  | one d => simp only [freshE, Bool.and_eq_true] at h; exact Fresh.of h.1 (hnopE_ok h.2)
  | blk B => simp only [freshE, Bool.and_eq_true] at h; exact Fresh.of h.1 (hnopE_ok h.2)
theorem Sk.enc (E : ESt) : Sk (eget E.t) (encE E) := fun i => .inr (tget_enc E.t i)
theorem Hk.enc (E : ESt) (us : List Nat) : Hk (ehget E.h) us (encE E) := fun k _ => hget_enc E.h k

/-- 1; it is not reckoned -/
noncomputable def oneX : Nat := Classical.choose (⟨1, rfl⟩ : ∃ n : Nat, n = 1)
theorem oneX_eq : oneX = 1 := Classical.choose_spec (⟨1, rfl⟩ : ∃ n : Nat, n = 1)
open Classical in
noncomputable def demG {R : Type} (f : Bool → Option R) : Option R := match f true, f false with
  | some a, some b => if a = b then some a else none
  | _, _ => none
/-- it comes to the same, whichever it is -/
noncomputable def dem {R : Type} (f : Bool → Option R) : Option R := Nat.rec (motive := fun _ => Option R) none (fun _ _ => demG f) oneX
theorem dem_eq {R : Type} (f : Bool → Option R) : dem f = demG f := by
  unfold dem
  rw [oneX_eq]
  rfl
theorem dem_iff {R : Type} {f : Bool → Option R} {r : R} : dem f = some r ↔ f true = some r ∧ f false = some r := by
  rw [dem_eq]
  unfold demG
  cases h1 : f true with
  | none => simp
  | some a =>
    cases h2 : f false with
    | none => simp
    | some b =>
      simp only
      split
      · rename_i h; subst h; simp
      · rename_i h
        simp only [Option.some.injEq, reduceCtorEq, false_iff, not_and]
        rintro rfl e
        exact h e.symm
open Classical in
noncomputable def dAllG {R : Type} (n : Nat) (m : Int) (f : Nat → Option R) (g : Option R) : Option R :=
  if ∀ j, j < n → m.toNat.testBit j = true then g else if h : ∃ r, ∀ j, j < n → m.toNat.testBit j = false → f j = some r then some (Classical.choose h) else none
/-- it comes to the same, whichever of the places is taken that are not in the mask; if all are: the last -/
noncomputable def dAll {R : Type} (n : Nat) (m : Int) (f : Nat → Option R) (g : Option R) : Option R := Nat.rec (motive := fun _ => Option R) none (fun _ _ => dAllG n m f g) oneX
theorem dAll_eq {R : Type} (n : Nat) (m : Int) (f : Nat → Option R) (g : Option R) : dAll n m f g = dAllG n m f g := by
  unfold dAll
  rw [oneX_eq]
  rfl
theorem dAll_some {R : Type} {n : Nat} {m : Int} {f : Nat → Option R} {g : Option R} {r : R} (h : dAll n m f g = some r) :
    ((∀ j, j < n → m.toNat.testBit j = true) → g = some r) ∧ ∀ j, j < n → m.toNat.testBit j = false → f j = some r := by
  rw [dAll_eq] at h
  unfold dAllG at h
  split at h
  · rename_i ha
    exact ⟨fun _ => h, fun j hj hb => by rw [ha j hj] at hb; cases hb⟩
  · rename_i hn
    split at h
    · rename_i he
      cases h
      exact ⟨fun ha => absurd ha hn, fun j hj hb => Classical.choose_spec he j hj hb⟩
    · cases h
/-- all were met -/
theorem dAll_over {R : Type} {n : Nat} {m : Int} {f : Nat → Option R} {g : Option R} (h : ∀ j, j < n → m.toNat.testBit j = true) : dAll n m f g = g := by
  rw [dAll_eq]
  unfold dAllG
  rw [if_pos h]
/-- some are left, and all of them come to r -/
theorem dAll_of {R : Type} {n : Nat} {m : Int} {f : Nat → Option R} {g : Option R} {r : R} {j0 : Nat} (h0 : j0 < n) (hb : m.toNat.testBit j0 = false) (h : ∀ j, j < n → m.toNat.testBit j = false → f j = some r) : dAll n m f g = some r := by
  rw [dAll_eq]
  unfold dAllG
  rw [if_neg (fun ha => by rw [ha j0 h0] at hb; cases hb), dif_pos ⟨r, h⟩]
  have he : ∃ r, ∀ j, j < n → m.toNat.testBit j = false → f j = some r := ⟨r, h⟩
  have := Classical.choose_spec he j0 h0 hb
  rw [h j0 h0 hb] at this
  exact this.symm
/-! through a map -/
inductive ItT where
  | go (d : Nat) (t : TypeId) (x : Operand)
  | nx (d : Nat) (x : Operand)
  | en (d : Nat) (x : Operand)
def itT? (o : Oper) : Option ItT := match o.dst with
  | some d => match o.op with
    | .range t x => some (.go d t x)
    | .next x false => some (.nx d x)
    | .entry x => some (.en d x)
    | _ => none
  | none => none
/-- the block that goes through a map: its name, the map's; how many there were, which were met, the last -/
structure ItB where
  k : Nat
  km : Nat
  n0 : Int
  m : Int
  c : Int
  kc : Sc
  vc : Sc
  es : List (kc.Val × vc.Val)
  d : TypeDesc
def itB (E : ESt) (c : EV) : Option ItB := match c with
  | .pt k 0 => match ehget E.h k with
    | some (.box t [.mp km, .sc (.i .i64) n0, .sc (.i .i64) m, .sc (.i .i64) c]) => cond (Nat.beq t itT) (match ehget E.h km with
      | some (.mp d kc vc es) => some ⟨k, km, n0, m, c, kc, vc, es, d⟩
      | _ => none) none
    | _ => none
  | _ => none
noncomputable def exIt (T : TypeId → TInfo) (q : ItT) (E : ESt) {R : Type} (k : ESt → Option R) : Option R := match q with
  | .go d t x => match evx (eget E.t) x with
    | .mp j => match ehget E.h j with
      | some (.mp _ kc vc es) => cond (Nat.blt d E.n && (T t).mp.isSome && !(Nat.beq d j) && freshE (.one d) E) (k ⟨E.n, (d, .pt d 0) :: E.t, (d, some (.box itT [.mp j, .sc (.i .i64) ((@List.length (kc.Val × vc.Val) es : Nat) : Int), .sc (.i .i64) 0, .sc (.i .i64) (-1)])) :: E.h⟩) none
      | _ => none
    | _ => none
  | .nx d x => match itB E (evx (eget E.t) x) with
    | some q => cond (Nat.blt d E.n) (cond (decide (((@List.length (q.kc.Val × q.vc.Val) q.es : Nat) : Int) = q.n0)) (dAll (@List.length (q.kc.Val × q.vc.Val) q.es) q.m
        (fun j => k ⟨E.n, (d, .tu [.sc .b true, .un, .un]) :: E.t, (q.k, some (.box itT [.mp q.km, .sc (.i .i64) q.n0, .sc (.i .i64) (maskI q.m j), .sc (.i .i64) (Int.ofNat j)])) :: E.h⟩)
        (k ⟨E.n, (d, .tu [.sc .b false]) :: E.t, E.h⟩)) none) none
    | none => none
  | .en d x => match itB E (evx (eget E.t) x) with
    | some q => cond (Nat.blt d E.n && q.kc.key) (cond (decide (((@List.length (q.kc.Val × q.vc.Val) q.es : Nat) : Int) = q.n0)) (obind (nthI q.es q.c) fun p => k ⟨E.n, (d, .tu [valE q.kc p.1, valE q.vc p.2]) :: E.t, E.h⟩) none) none
    | none => none
structure NilT where
  d : Nat
  t : TypeId
  x : Operand
  c : EV
  r : Sc
  xs : List r.Val
def nilC (d : Nat) (t : TypeId) (x : Operand) : EV → Option NilT
  | .sc (.sl r) xs => some ⟨d, t, x, .sc (.sl r) xs, r, xs⟩
  | .ts r xs => some ⟨d, t, x, .ts r xs, r, xs⟩
  | .nil => some ⟨d, t, x, .nil, .b, []⟩
  | _ => none
/-- a slice held against nil -/
def nilT (o : Oper) (ev : Nat → EV) : Option NilT := match o.dst with
  | some d => match o.op with
    | .binOp .eql t x (.const (.slice none 0 0)) _ => nilC d t x (evx ev x)
    | _ => none
  | none => none
section
variable (T : TypeId → TInfo) (CT : List Ctr)
noncomputable def exStep (o : Oper) (E : ESt) {R : Type} (k : ESt → Option R) : Option R :=
  match itT? o with
  | some q => exIt T q E k
  | none =>
  match nilT o (eget E.t) with
  | some q => cond (Nat.blt q.d E.n && Nat.blt 0 q.r.w && (T q.t).el.isSome) (cond (isNilB q.xs) (dem fun b => k ⟨E.n, (q.d, .sc .b b) :: E.t, E.h⟩) (k ⟨E.n, (q.d, .sc .b false) :: E.t, E.h⟩)) none
  | none => exO T CT E.n (eget E.t) (ehget E.h) o fun c os us fr => cond (freshE fr E) (k ⟨E.n, tputE o.dst c E.t, os ++ E.h⟩) none
def skipE (d : Option Nat) (E : ESt) : ESt := ⟨E.n, tputE d (.v (.tuple ⟨[]⟩)) E.t, E.h⟩
def dstIn (d : Option Nat) (n : Nat) : Bool := match d with
  | some d => Nat.blt d n
  | none => true
noncomputable def exG (ops : List Oper) (o : Oper) (E : ESt) {R : Type} (k : ESt → Option R) : Option R :=
  match o.guard with
  | none => exStep T CT o E k
  | some (j, b) => match (ops[j]?).bind (·.dst) with
    | some s => match eget E.t s with
      | .sc .b c => cond (Nat.blt s E.n && dstIn o.dst E.n) (cond c
          (cond b (exStep T CT o ⟨E.n, (s, .sc .b true) :: E.t, E.h⟩ k) (k (skipE o.dst ⟨E.n, (s, .sc .b true) :: E.t, E.h⟩)))
          (cond b (k (skipE o.dst ⟨E.n, (s, .sc .b false) :: E.t, E.h⟩)) (exStep T CT o ⟨E.n, (s, .sc .b false) :: E.t, E.h⟩ k))) none
      | .v (.tuple ⟨[]⟩) => cond (Nat.blt s E.n && dstIn o.dst E.n) (k (skipE o.dst E)) none
      | _ => none
    | none => none
noncomputable def exL (ops : List Oper) : List Oper → (E : ESt) → {R : Type} → (ESt → Option R) → Option R
  | [], E, _, k => k E
  | o :: l, E, _, k => exG T CT ops o E fun E' => exL ops l E' k

/-! ### drawn -/
structure EEn where
  d : Option Nat
  c : EV
  os : EHp
  us : List Nat
  fr : Fr
def finTE (t : List (Nat × EV)) : List EEn → List (Nat × EV)
  | [] => t
  | u :: pl => finTE (tputE u.d u.c t) pl
def finHE (h : EHp) : List EEn → EHp
  | [] => h
  | u :: pl => finHE (u.os ++ h) pl
def encN (u : EEn) : En := ⟨u.d, enc u.c, encH u.os, u.us, u.fr.p⟩
/-- a slot, where an edge leads to the operation that writes it -/
def edgeE (done : List EEn) (i : Nat) : List Edge → Option EV
  | [] => none
  | e :: es => cond (Region.binds .any e) (match done[e.on]? with
    | some u => match u.d with
      | some d => cond (Nat.beq d i) (some u.c) (edgeE done i es)
      | none => edgeE done i es
    | none => edgeE done i es) (edgeE done i es)
def unwritten (l : List Oper) (i : Nat) : Bool := match l with
  | [] => true
  | o :: l => match o.dst with
    | some d => cond (Nat.beq d i) false (unwritten l i)
    | none => unwritten l i
def evAt (l : List Oper) (t : List (Nat × EV)) (done : List EEn) (es : List Edge) (i : Nat) : EV :=
  match edgeE done i es with
  | some c => c
  | none => cond (unwritten l i) (eget t i) (cond (freeS l done.length i) (eget t i) .un)
def apartE (v u : EEn) : Bool := v.os.all (fun p => !hin p.1 (encH u.os) && !u.us.contains p.1) && u.os.all (fun p => !v.us.contains p.1)
def newE (v u : EEn) : Bool := match u.fr with
  | .no => true
  | .one d => (enc v.c).nom (Fr.one d).p && hnopE (Fr.one d).p v.os
  | .blk B => (enc v.c).nom (Fr.blk B).p && hnopE (Fr.blk B).p v.os
def fitE (l : List Oper) (u : EEn) (j : Nat) : Nat → List EEn → Bool
  | _, [] => true
  | i, v :: done => (apartE v u || aheadOf l j i) && newE v u && (newE u v || aheadOf l j i) && fitE l u j (i + 1) done
def exD (l : List Oper) (E : ESt) : List Oper → List EEn → {R : Type} → (ESt → Option R) → Option R
  | [], done, _, k => cond (dstsB l && backB 0 l) (k ⟨E.n, finTE E.t done, finHE E.h done⟩) none
  | o :: rest, done, _, k => match o.guard with
    | none => exO T CT E.n (evAt l E.t done o.after.toList) (ehget (finHE E.h done)) o fun c os us fr =>
        cond (fitE l ⟨o.dst, c, os, us, fr⟩ done.length 0 done && freshE fr E) (exD l E rest (done ++ [⟨o.dst, c, os, us, fr⟩]) k) none
    | some (j, b) => match done[j]? with
      | some v => match v.d with
        | some s => match v.c with
          | .sc .b c => cond (o.after.toList.any (fun e => Nat.beq e.on j && Region.binds .any e) && Nat.blt s E.n && dstIn o.dst E.n) (cond c
              (cond b (exO T CT E.n (evAt l E.t (done.set j ⟨v.d, .sc .b true, v.os, v.us, v.fr⟩) o.after.toList) (ehget (finHE E.h done)) o fun c os us fr =>
                  cond (fitE l ⟨o.dst, c, os, us, fr⟩ done.length 0 done && freshE fr E) (exD l E rest (done.set j ⟨v.d, .sc .b true, v.os, v.us, v.fr⟩ ++ [⟨o.dst, c, os, us, fr⟩]) k) none)
                (cond (fitE l ⟨o.dst, .v (.tuple ⟨[]⟩), [], [], .no⟩ done.length 0 done) (exD l E rest (done.set j ⟨v.d, .sc .b true, v.os, v.us, v.fr⟩ ++ [⟨o.dst, .v (.tuple ⟨[]⟩), [], [], .no⟩]) k) none))
              (cond b (cond (fitE l ⟨o.dst, .v (.tuple ⟨[]⟩), [], [], .no⟩ done.length 0 done) (exD l E rest (done.set j ⟨v.d, .sc .b false, v.os, v.us, v.fr⟩ ++ [⟨o.dst, .v (.tuple ⟨[]⟩), [], [], .no⟩]) k) none)
                (exO T CT E.n (evAt l E.t (done.set j ⟨v.d, .sc .b false, v.os, v.us, v.fr⟩) o.after.toList) (ehget (finHE E.h done)) o fun c os us fr =>
                  cond (fitE l ⟨o.dst, c, os, us, fr⟩ done.length 0 done && freshE fr E) (exD l E rest (done.set j ⟨v.d, .sc .b false, v.os, v.us, v.fr⟩ ++ [⟨o.dst, c, os, us, fr⟩]) k) none))) none
          | .v (.tuple ⟨[]⟩) => cond (o.after.toList.any (fun e => Nat.beq e.on j && Region.binds .any e) && Nat.blt s E.n && dstIn o.dst E.n)
              (cond (fitE l ⟨o.dst, .v (.tuple ⟨[]⟩), [], [], .no⟩ done.length 0 done) (exD l E rest (done ++ [⟨o.dst, .v (.tuple ⟨[]⟩), [], [], .no⟩]) k) none) none
          | _ => none
        | none => none
      | none => none
end

section
variable {P : Program} {T : TypeId → TInfo} {CT : List Ctr}
/-- all that is asked of a place: its types, its contracts -/
structure Place (P : Program) (T : TypeId → TInfo) (CT : List Ctr) : Prop where
  t : TOk P T
  c : ∀ c ∈ CT, c.ok P
  m : P.follows .mixedOrders = true
variable (hp : Place P T CT)
include hp
omit hp in
theorem nilC_ok {d : Nat} {t : TypeId} {x : Operand} {c : EV} {q : NilT} (h : nilC d t x c = some q) : q.d = d ∧ q.t = t ∧ q.x = x ∧ c ≠ .un ∧ ∃ tt sz2 rows, enc c = .sl tt sz2 rows ∧ (rows = [] ∨ sz2 = q.r.w) ∧ (rows = [] ↔ q.xs = []) := by
  unfold nilC at h
  split at h
  · cases h
    exact ⟨rfl, rfl, rfl, (by intro e; cases e), _, _, _, rfl, .inr rfl, by simp⟩
  · cases h
    exact ⟨rfl, rfl, rfl, (by intro e; cases e), _, _, _, rfl, .inr rfl, by simp⟩
  · cases h
    exact ⟨rfl, rfl, rfl, (by intro e; cases e), _, _, _, rfl, .inl rfl, by simp⟩
  · cases h
omit hp in
theorem isNilB_iff {α : Type} (xs : List α) : isNilB xs = true ↔ xs = [] := by cases xs <;> simp [isNilB]
omit hp in
theorem encC_keyVs {Rd : Nat → Nat → Value → Prop} {E : Option Env} : ∀ (s : Sc) (x : s.Val), s.key = true → LR (VR Rd E) (encC s x) (keyVs s x)
  | .i k, x, _ => LR.cons .v LR.nil
  | .b, x, _ => LR.cons .v LR.nil
  | .sl _, _, h => by cases h
  | .u, _, _ => LR.nil
  | .pr a c, p, h => by
    simp only [Sc.key, Bool.and_eq_true] at h
    exact (encC_keyVs a p.1 h.1).append (encC_keyVs c p.2 h.2)
omit hp in
theorem keyV_ok {s : Sc} (hk : s.key = true) (x : s.Val) (Rd : Nat → Nat → Value → Prop) (E : Option Env) : VR Rd E (enc (valE s x)) (keyV s x) := by
  cases s with
  | i k => exact .v
  | b => exact .v
  | sl r => cases hk
  | u => exact .ag [] rfl (fun j c u h => by cases h)
  | pr a c =>
    show VR Rd E (.ag (encL (splitC (.pr a c) x))) (.agg (keyVs (.pr a c) x).toArray)
    rw [encL_split]
    have := encC_keyVs (Rd := Rd) (E := E) (.pr a c) x hk
    exact .ag _ this.1 this.2
omit hp in
theorem itB_ok {E : ESt} {c : EV} {q : ItB} (h : itB E c = some q) : c = .pt q.k 0 ∧ hget (encE E).h q.k = some (.box itT [.mp q.km, .v (.int .i64 q.n0), .v (.int .i64 q.m), .v (.int .i64 q.c)]) ∧ hget (encE E).h q.km = some (.mp q.d (encM q.kc q.vc q.es)) := by
  unfold itB at h
  split at h
  · rename_i k
    split at h
    · rename_i t km n0 m c hk
      obtain ⟨h1, h2⟩ := cond_none h
      split at h2
      · rename_i d kc vc es hkm
        cases h2
        have := Nat.eq_of_beq_eq_true h1
        subst this
        refine ⟨rfl, ?_, ?_⟩
        · show hget (encH E.h) k = _
          rw [hget_enc, hk]; rfl
        · show hget (encH E.h) km = _
          rw [hget_enc, hkm]; rfl
      · cases h2
    · cases h
  · cases h
theorem exIt_ok {o : Oper} {q : ItT} (hq : itT? o = some q) {E : ESt} {R : Type} {k : ESt → Option R} {r : R} (h : exIt T q E k = some r) : SS P o (encE E) (fun s => ∃ E', s = encE E' ∧ k E' = some r) ∧ ∀ d, o.dst = some d → d < E.n := by
  obtain ⟨dst, op, ty, pos, af, gd⟩ := o
  unfold itT? at hq
  simp only at hq
  split at hq
  · rename_i d
    split at hq
    · rename_i t x
      cases hq
      simp only [exIt] at h
      split at h
      · rename_i j hx
        split at h
        · rename_i td kc vc es hj
          obtain ⟨h1, h2⟩ := cond_none h
          simp only [Bool.and_eq_true, Bool.not_eq_true'] at h1
          obtain ⟨⟨⟨g1, g2⟩, g3⟩, g4⟩ := h1
          have hd : d < E.n := Nat.le_of_ble_eq_true g1
          obtain ⟨⟨td2, z⟩, hm⟩ := Option.isSome_iff_exists.1 g2
          have hdj : d ≠ j := fun e => by rw [e, Nat.beq_refl] at g3; cases g3
          refine ⟨?_, fun d' hd' => by cases hd'; exact hd⟩
          have hf := freshE_ok g4
          have hxs : (encE E).ev x = .mp j := by rw [(Sk.enc E).is hx (by intro e; cases e)]; rfl
          have hks : hget (encE E).h j = some (.mp td (encM kc vc es)) := by
            show hget (encH E.h) j = _
            rw [hget_enc, hj]; rfl
          have := SS.range (P := P) (st := encE E) (ty := ty) (pos := pos) (af := af) (gd := gd) (d := d) (hp.t.mp _ _ hm) hxs hks hd hdj
            (K := fun s => s = ⟨(encE E).n, tput (some d) (.pt d 0) (tkill d (encE E).t), [(d, some (.box itT [.mp j, .v (.int .i64 ((encM kc vc es).length : Int)), .v (.int .i64 0), .v (.int .i64 (-1))]))] ++ hkill d (encE E).h⟩) rfl
          refine SS.mono (SS.fresh hf.t hf.h this) fun s hs => ?_
          subst hs
          refine ⟨_, SLe.refl, _, ?_, h2⟩
          simp only [encE, encM, List.length_map]
          rfl
        · cases h
      · cases h
    · rename_i x
      cases hq
      simp only [exIt] at h
      split at h
      · rename_i q hb
        obtain ⟨h1, h2⟩ := cond_none h
        obtain ⟨h2, h3⟩ := cond_none h2
        have hd : d < E.n := Nat.le_of_ble_eq_true h1
        obtain ⟨b1, b2, b3⟩ := itB_ok hb
        obtain ⟨k0, k1⟩ := dAll_some h3
        refine ⟨?_, fun d' hd' => by cases hd'; exact hd⟩
        have hlen : (encM q.kc q.vc q.es).length = q.es.length := by simp [encM]
        refine SS.next (by rw [(Sk.enc E).is b1 (by intro e; cases e)]; rfl) b2 b3 (by rw [hlen]; exact of_decide_eq_true h2) hd (fun ha => ?_) fun j hj hbj => ?_
        · exact ⟨_, rfl, k0 fun j hj => ha j (by rw [hlen]; exact hj)⟩
        · exact ⟨_, rfl, k1 j (by rw [← hlen]; exact hj) hbj⟩
      · cases h
    · rename_i x
      cases hq
      simp only [exIt] at h
      split at h
      · rename_i q hb
        obtain ⟨h1, h2⟩ := cond_none h
        obtain ⟨h2, h3⟩ := cond_none h2
        obtain ⟨p, hn, h4⟩ := obind_some h3
        simp only [Bool.and_eq_true] at h1
        have hd : d < E.n := Nat.le_of_ble_eq_true h1.1
        obtain ⟨b1, b2, b3⟩ := itB_ok hb
        obtain ⟨hc, hn⟩ := nthI_some hn
        refine ⟨?_, fun d' hd' => by cases hd'; exact hd⟩
        have hlen : (encM q.kc q.vc q.es).length = q.es.length := by simp [encM]
        have := RS.entry (P := P) (dd := some d) (ty := ty) (pos := pos) (af := af) (gd := gd) (st := encE E) (x := x) (kv := keyV q.kc p.1) (kc := enc (valE q.kc p.1)) (cv := enc (valE q.vc p.2)) (by rw [(Sk.enc E).is b1 (by intro e; cases e)]; rfl) b2 b3 (by rw [hlen]; exact of_decide_eq_true h2) hc
          (by simp only [encM, List.getElem?_map, hn]; rfl) (keyV_ok h1.2 p.1)
        exact SS.read this hd ⟨_, rfl, h4⟩
      · cases h
    · cases hq
  · cases hq
theorem exStep_ok {o : Oper} {E : ESt} {R : Type} {k : ESt → Option R} {r : R} (h : exStep T CT o E k = some r) : SS P o (encE E) (fun s => ∃ E', s = encE E' ∧ k E' = some r) ∧ ∀ d, o.dst = some d → d < E.n := by
  unfold exStep at h
  split at h
  · rename_i q hq
    exact exIt_ok hp hq h
  split at h
  · rename_i q hq
    obtain ⟨h1, h2⟩ := cond_none h
    simp only [Bool.and_eq_true] at h1
    obtain ⟨dst, op, ty, pos, af, gd⟩ := o
    unfold nilT at hq
    simp only at hq
    split at hq
    · rename_i d
      split at hq
      · rename_i t x t2
        obtain ⟨e1, e2, e3, hne, tt, sz2, rows, henc, hsz, hnil⟩ := nilC_ok hq
        subst e1 e2 e3
        obtain ⟨⟨g1, g2⟩, g3⟩ := h1
        have hd : q.d < E.n := Nat.le_of_ble_eq_true g1
        have hw : 0 < q.r.w := Nat.le_of_ble_eq_true g2
        obtain ⟨⟨et, esz, eb, ez⟩, he⟩ := Option.isSome_iff_exists.1 g3
        refine ⟨?_, fun d' hd' => by cases hd'; exact hd⟩
        have hx : (encE E).ev q.x = .sl tt sz2 rows := by rw [(Sk.enc E).is rfl hne, henc]
        refine SS.nilEq (hp.t.el _ _ he) hx (hsz.imp id fun e => by rw [e]; exact hw) hd fun b hb => ?_
        rcases cond_some h2 with ⟨hc, h3⟩ | ⟨hc, h3⟩
        · have := dem_iff.1 h3
          refine ⟨⟨E.n, (q.d, .sc .b b) :: E.t, E.h⟩, rfl, ?_⟩
          cases b
          · exact this.2
          · exact this.1
        · have hbf : b = false := by
            cases b with
            | false => rfl
            | true =>
              have := hnil.1 (hb rfl)
              rw [(isNilB_iff _).2 this] at hc
              cases hc
          subst hbf
          exact ⟨_, rfl, h3⟩
      · cases hq
    · cases hq
  · obtain ⟨c, os, us, fr, a, b, hd⟩ := exO_ok hp.t hp.c h
    obtain ⟨h1, h2⟩ := cond_none b
    refine ⟨SS.mono (K := fun s => s = encE ⟨E.n, tputE o.dst c E.t, os ++ E.h⟩) ?_ fun s hs => ⟨_, by rw [hs]; exact SLe.refl, _, rfl, h2⟩, hd⟩
    have := a (encE E) rfl (Sk.enc E) (Hk.enc E us) (freshE_ok h1)
    simp only [encE, encT_put, encH_append] at this ⊢
    exact this
omit hp in
theorem SLe.slotE {E : ESt} {s : Nat} {c : Bool} (hs : eget E.t s = .sc .b c) : SLe P (encE E) (encE ⟨E.n, (s, .sc .b c) :: E.t, E.h⟩) := by
  refine SLe.same (fun i => ?_) fun k => rfl
  rw [tget_enc, tget_enc]
  simp only [eget]
  by_cases hi : i = s
  · rw [hi, Nat.beq_refl, hs]; rfl
  · rw [beq_no hi]; rfl
theorem exG_ok {ops : List Oper} {o : Oper} {E : ESt} {R : Type} {k : ESt → Option R} {r : R} (h : exG T CT ops o E k = some r) : GS P ops.toArray o (encE E) (fun s => ∃ E', s = encE E' ∧ k E' = some r) := by
  obtain ⟨dst, op, ty, pos, af, gd⟩ := o
  unfold exG at h
  split at h
  · rename_i hg
    simp only at hg
    subst hg
    exact GS.plain rfl (exStep_ok hp h).1
  · rename_i j b hg
    simp only at hg
    subst hg
    split at h
    · rename_i s hs
      split at h
      · rename_i c hc
        obtain ⟨h1, h2⟩ := cond_none h
        simp only [Bool.and_eq_true] at h1
        have hs' : (ops.toArray[j]?).bind (·.dst) = some s := by simpa using hs
        have hsn : s < E.n := Nat.le_of_ble_eq_true h1.1
        have hdn : ∀ d, dst = some d → d < E.n := fun d e => by
          have := h1.2
          simp only [e, dstIn] at this
          exact Nat.le_of_ble_eq_true this
        have hle := SLe.slotE (P := P) hc
        have take : ∀ (c' : Bool), c = c' → b = c' → exStep T CT ⟨dst, op, ty, pos, af, some (j, b)⟩ ⟨E.n, (s, .sc .b c') :: E.t, E.h⟩ k = some r → GS P ops.toArray ⟨dst, op, ty, pos, af, some (j, b)⟩ (encE E) (fun s => ∃ E', s = encE E' ∧ k E' = some r) := by
          intro c' e1 e2 hk
          subst e1 e2
          exact GS.le hle (GS.taken rfl hs' hsn (by simp [encE, encT, tget, enc, encS]) (exStep_ok hp hk).1)
        have leave : ∀ (c' : Bool), c = c' → (c' == b) = false → k (skipE dst ⟨E.n, (s, .sc .b c') :: E.t, E.h⟩) = some r → GS P ops.toArray ⟨dst, op, ty, pos, af, some (j, b)⟩ (encE E) (fun s => ∃ E', s = encE E' ∧ k E' = some r) := by
          intro c' e1 e2 hk
          subst e1
          refine GS.le hle (GS.left (b := b) (c := c) rfl hs' hsn (by simp [encE, encT, tget, enc, encS]) e2 hdn ⟨_, ?_, hk⟩)
          cases dst <;> rfl
        rcases cond_some h2 with ⟨hcc, h3⟩ | ⟨hcc, h3⟩
        · rcases cond_some h3 with ⟨hb, h4⟩ | ⟨hb, h4⟩
          · exact take true hcc hb h4
          · exact leave true hcc (by rw [hb]; rfl) h4
        · rcases cond_some h3 with ⟨hb, h4⟩ | ⟨hb, h4⟩
          · exact leave false hcc (by rw [hb]; rfl) h4
          · exact take false hcc hb h4
      · rename_i hc
        obtain ⟨h1, h2⟩ := cond_none h
        simp only [Bool.and_eq_true] at h1
        have hs' : (ops.toArray[j]?).bind (·.dst) = some s := by simpa using hs
        have hsn : s < E.n := Nat.le_of_ble_eq_true h1.1
        have hdn : ∀ d, dst = some d → d < E.n := fun d e => by
          have := h1.2
          simp only [e, dstIn] at this
          exact Nat.le_of_ble_eq_true this
        refine GS.leftU (b := b) rfl hs' hsn ?_ hdn ⟨_, ?_, h2⟩
        · rw [show tget (encE E).t s = enc (eget E.t s) from tget_enc E.t s, hc]; rfl
        · cases dst <;> rfl
      · cases h
    · cases h
theorem exL_ok {ops : List Oper} : ∀ {l : List Oper} {E : ESt} {R : Type} {k : ESt → Option R} {r : R}, exL T CT ops l E k = some r → AL P ops.toArray l (encE E) (fun s => ∃ E', s = encE E' ∧ k E' = some r)
  | [], E, R, k, r, h => AL.nil ⟨E, rfl, h⟩
  | o :: l, E, R, k, r, h => by
    simp only [exL] at h
    refine AL.cons fun K' hK' => ?_
    have a := exG_ok hp h
    intro w0 Rd0 e a' w next Q hg hn
    refine a w0 Rd0 e a' w next Q hg fun st' hst' => hn st' (hK' st' ?_)
    obtain ⟨E', rfl, b⟩ := hst'
    exact exL_ok b
/-! drawn -/
omit hp in
theorem encT_fin (pl : List EEn) (t : List (Nat × EV)) : encT (finTE t pl) = finT (encT t) (pl.map encN) := by
  induction pl generalizing t with
  | nil => rfl
  | cons u pl ih => simp only [finTE, List.map_cons, finT, ih, encT_put]; rfl
omit hp in
theorem encH_fin (pl : List EEn) (h : EHp) : encH (finHE h pl) = finH (encH h) (pl.map encN) := by
  induction pl generalizing h with
  | nil => rfl
  | cons u pl ih => simp only [finHE, List.map_cons, finH, ih, encH_append]; rfl
omit hp in
theorem edgeE_ok {done : List EEn} {i : Nat} : ∀ {es : List Edge} {c : EV}, edgeE done i es = some c → ∃ e ∈ es, Region.binds .any e = true ∧ ∃ u, done[e.on]? = some u ∧ u.d = some i ∧ u.c = c
  | [], c, h => by cases h
  | e :: es, c, h => by
    simp only [edgeE] at h
    rcases cond_some h with ⟨hb, h⟩ | ⟨hb, h⟩
    · split at h
      · rename_i u hu
        split at h
        · rename_i d hd
          rcases cond_some h with ⟨hd', h⟩ | ⟨_, h⟩
          · cases h
            have := Nat.eq_of_beq_eq_true hd'
            subst this
            exact ⟨e, by simp, hb, u, hu, hd, rfl⟩
          · obtain ⟨e', h1, h2⟩ := edgeE_ok h
            exact ⟨e', by simp [h1], h2⟩
        · obtain ⟨e', h1, h2⟩ := edgeE_ok h
          exact ⟨e', by simp [h1], h2⟩
      · obtain ⟨e', h1, h2⟩ := edgeE_ok h
        exact ⟨e', by simp [h1], h2⟩
    · obtain ⟨e', h1, h2⟩ := edgeE_ok h
      exact ⟨e', by simp [h1], h2⟩
omit hp in
theorem unwritten_ok : ∀ {l : List Oper} {i : Nat}, unwritten l i = true → (l.all fun o => o.dst != some i) = true
  | [], i, _ => rfl
  | o :: l, i, h => by
    simp only [unwritten] at h
    simp only [List.all_cons, Bool.and_eq_true]
    split at h
    · rename_i d hd
      rcases condB h with ⟨h1, h2⟩ | ⟨h1, h2⟩
      · cases h2
      · refine ⟨?_, unwritten_ok h2⟩
        rw [hd]
        have : d ≠ i := fun e => by rw [e, Nat.beq_refl] at h1; cases h1
        simpa using this
    · rename_i hd
      exact ⟨by rw [hd]; rfl, unwritten_ok h⟩
omit hp in
theorem Kn.sk {l : List Oper} {E : ESt} {done : List EEn} {o : Oper} {u : En} {st : St} (hk : Kn l (encE E) (done.map encN) o u st) : Sk (evAt l E.t done o.after.toList) st := by
  intro i
  unfold evAt
  split
  · rename_i c hc
    obtain ⟨e, he, hb, v, hv, hd, rfl⟩ := edgeE_ok hc
    exact .inr (hk.ts e (by simpa using he) hb (encN v) i (by rw [List.getElem?_map, hv]; rfl) hd)
  · cases h1 : unwritten l i with
    | true => exact .inr ((hk.t0 i (unwritten_ok h1)).trans (tget_enc E.t i))
    | false =>
      cases h2 : freeS l done.length i with
      | true => exact .inr ((hk.t1 i (by rw [List.length_map]; exact h2)).trans (tget_enc E.t i))
      | false => exact .inl rfl
omit hp in
theorem Kn.hk {l : List Oper} {E : ESt} {done : List EEn} {o : Oper} {u : EEn} {st : St} (hk : Kn l (encE E) (done.map encN) o (encN u) st) : Hk (ehget (finHE E.h done)) u.us st := by
  intro k hkk
  rw [hk.h k hkk, ← hget_enc, encH_fin]; rfl
omit hp in
theorem newE_ok {v u : EEn} (h : newE v u = true) : (encN v).c.nom (encN u).fr = true ∧ hnop (encN u).fr (encN v).os = true := by
  obtain ⟨d, c, os, us, fr⟩ := u
  cases fr with
  | no => exact ⟨nom_ff _, hnop_ff _⟩
  | one d => simp only [newE, Bool.and_eq_true] at h; exact ⟨h.1, hnopE_ok h.2⟩
  | blk B => simp only [newE, Bool.and_eq_true] at h; exact ⟨h.1, hnopE_ok h.2⟩
omit hp in
theorem fitE_ok {l : List Oper} {u : EEn} {j : Nat} : ∀ {i : Nat} {done : List EEn}, fitE l u j i done = true → fitB l (encN u) j i (done.map encN)
  | i, [], _ => trivial
  | i, v :: done, h => by
    simp only [fitE, Bool.and_eq_true, Bool.or_eq_true] at h
    obtain ⟨⟨⟨h1, h2⟩, h3⟩, h4⟩ := h
    refine ⟨h1.imp (fun h => ?_) id, ⟨newE_ok h2, h3.imp newE_ok id⟩, fitE_ok h4⟩
    simp only [apartE, Bool.and_eq_true] at h
    simp only [apartB, Bool.and_eq_true]
    have key : ∀ (os : EHp) (q : Nat → Bool), os.all (fun p => q p.1) = (encH os).all (fun p => q p.1) := by
      intro os q
      induction os with
      | nil => rfl
      | cons p os ih => obtain ⟨k, o⟩ := p; simp only [encH, List.all_cons, ih]
    exact ⟨by rw [show (encN v).os = encH v.os from rfl, ← key v.os (fun k => !hin k (encN u).os && !(encN u).us.contains k)]; exact h.1, by rw [show (encN u).os = encH u.os from rfl, ← key u.os (fun k => !(encN v).us.contains k)]; exact h.2⟩
omit hp in
theorem PD.snoc {l : List Oper} {st0 : St} {done : List En} {o : Oper} {u : En} (hpd : PD P l st0 done) (ho : l[done.length]? = some o) (hd : o.dst = u.d) (hstep : DS P l st0 done o u) (hfit : fitB l u done.length 0 done) (hnew : tnop u.fr st0.t = true ∧ hnop u.fr st0.h = true) : PD P l st0 (done ++ [u]) := by
  have hlt : done.length < l.length := (List.getElem?_eq_some_iff.1 ho).1
  refine ⟨by simp; omega, fun j o' u' ho' hu' => ?_, fun i j v u' hij hv hu' => ?_, fun j u' hu' => ?_⟩
  · rcases Nat.lt_trichotomy j done.length with hj | hj | hj
    · rw [List.getElem?_append_left hj] at hu'
      rw [List.take_append_of_le_length (by omega)]
      exact hpd.step j o' u' ho' hu'
    · subst hj
      simp at hu'
      subst hu'
      obtain rfl := Option.some.inj (ho.symm.trans ho')
      refine ⟨hd, ?_⟩
      rw [List.take_left]
      exact hstep
    · rw [List.getElem?_eq_none (by simp; omega)] at hu'; cases hu'
  · rcases Nat.lt_trichotomy j done.length with hj | hj | hj
    · rw [List.getElem?_append_left hj] at hu'
      rw [List.getElem?_append_left (by omega)] at hv
      exact hpd.fit i j v u' hij hv hu'
    · subst hj
      simp at hu'
      subst hu'
      rw [List.getElem?_append_left hij] at hv
      have := fitB_get hfit i v hv
      rwa [Nat.zero_add] at this
    · rw [List.getElem?_eq_none (by simp; omega)] at hu'; cases hu'
  · rcases Nat.lt_trichotomy j done.length with hj | hj | hj
    · rw [List.getElem?_append_left hj] at hu'; exact hpd.new0 j u' hu'
    · subst hj
      simp at hu'
      subst hu'
      exact hnew
    · rw [List.getElem?_eq_none (by simp; omega)] at hu'; cases hu'
omit hp in
theorem freshE_new {fr : Fr} {E : ESt} (h : freshE fr E = true) : tnop fr.p (encE E).t = true ∧ hnop fr.p (encE E).h = true := by
  cases fr with
  | no => exact ⟨tnop_ff _, hnop_ff _⟩
  | one d => simp only [freshE, Bool.and_eq_true] at h; exact ⟨h.1, hnopE_ok h.2⟩
  | blk B => simp only [freshE, Bool.and_eq_true] at h; exact ⟨h.1, hnopE_ok h.2⟩
omit hp in
theorem FS.ds {l : List Oper} {E : ESt} {done : List EEn} {o : Oper} {c : EV} {os : EHp} {us : List Nat} {fr : Fr} {st : St} (h : FS P o E.n (evAt l E.t done o.after.toList) (ehget (finHE E.h done)) c os us fr) (hk : Kn l (encE E) (done.map encN) o (encN ⟨o.dst, c, os, us, fr⟩) st) :
    SS P o st (fun s => s = ⟨st.n, tput o.dst (enc c) st.t, encH os ++ st.h⟩) :=
  h st hk.n hk.sk (Kn.hk hk) ⟨hk.ft, hk.fh, hk.fk⟩
theorem exD_ok {l : List Oper} {E : ESt} : ∀ {rest : List Oper} {done : List EEn} {R : Type} {k : ESt → Option R} {r : R}, exD T CT l E rest done k = some r → rest = l.drop done.length → PD P l (encE E) (done.map encN) →
    ∃ pl, Plan P l (encE E) (pl.map encN) ∧ k ⟨E.n, finTE E.t pl, finHE E.h pl⟩ = some r
  | [], done, R, k, r, h, hr, hpd => by
    simp only [exD] at h
    obtain ⟨h1, h2⟩ := cond_none h
    simp only [Bool.and_eq_true] at h1
    have hlen : (done.map encN).length = l.length := by
      have h1 := hpd.len
      have h2 := congrArg List.length hr
      simp at h1 h2 ⊢
      omega
    exact ⟨done, ⟨hlen, hpd.step, hpd.fit, hpd.new0, h1.1, fun j o ho e he hbi => by have := backB_get h1.2 j o ho e he hbi; omega⟩, h2⟩
  | o :: rest, done, R, k, r, h, hr, hpd => by
    have ho : l[done.length]? = some o := by
      have := congrArg (fun x => x[0]?) hr
      simpa using this.symm
    have hr' : rest = l.drop (done.length + 1) := by
      have : l.drop (done.length + 1) = (l.drop done.length).drop 1 := by rw [List.drop_drop]
      rw [this, ← hr]; rfl
    have go : ∀ (u : EEn), o.dst = u.d → DS P l (encE E) (done.map encN) o (encN u) → fitE l u done.length 0 done = true → freshE u.fr E = true → ∀ {R : Type} {k : ESt → Option R} {r : R}, exD T CT l E rest (done ++ [u]) k = some r → ∃ pl, Plan P l (encE E) (pl.map encN) ∧ k ⟨E.n, finTE E.t pl, finHE E.h pl⟩ = some r := by
      intro u hd hds hfit hfr R k r hk
      refine exD_ok hk (by rw [List.length_append]; exact hr') ?_
      rw [List.map_append]
      have hl : (done.map encN).length = done.length := List.length_map _
      exact hpd.snoc (by rw [hl]; exact ho) hd hds (by rw [hl]; exact fitE_ok hfit) (freshE_new hfr)
    simp only [exD] at h
    split at h
    · rename_i hg
      obtain ⟨c, os, us, fr, a, b, hd⟩ := exO_ok hp.t hp.c h
      obtain ⟨h1, h2⟩ := cond_none b
      simp only [Bool.and_eq_true] at h1
      exact go ⟨o.dst, c, os, us, fr⟩ rfl (fun st hk => GS.plain hg (a.ds hk)) h1.1 h1.2 h2
    · rename_i j b hg
      split at h
      · rename_i v hv
        split at h
        · rename_i s hs
          split at h
          · rename_i c hc
            obtain ⟨h1, h2⟩ := cond_none h
            simp only [Bool.and_eq_true] at h1
            obtain ⟨⟨q1, q2⟩, q3⟩ := h1
            have hsn : s < E.n := Nat.le_of_ble_eq_true q2
            have hdn : ∀ d, o.dst = some d → d < E.n := fun d e => by
              simp only [e, dstIn] at q3
              exact Nat.le_of_ble_eq_true q3
            obtain ⟨e, he, hej⟩ := List.any_eq_true.1 q1
            simp only [Bool.and_eq_true] at hej
            have hej1 := Nat.eq_of_beq_eq_true hej.1
            have hset : ∀ c', c = c' → done.set j ⟨v.d, .sc .b c', v.os, v.us, v.fr⟩ = done := fun c' e => by
              subst e
              rw [← hc]
              obtain ⟨hj, rfl⟩ := List.getElem?_eq_some_iff.1 hv
              exact List.set_getElem_self hj
            have hjl : (l.toArray[j]?).bind (·.dst) = some s := by
              have hj := (List.getElem?_eq_some_iff.1 hv).1
              have hpl := hpd.len
              rw [List.length_map] at hpl
              have hlj : l[j]? = some l[j] := List.getElem?_eq_getElem (by omega)
              have := (hpd.step j _ (encN v) hlj (by rw [List.getElem?_map, hv]; rfl)).1
              simp only [List.getElem?_toArray, hlj, Option.bind_some, this]
              exact hs
            have hval : ∀ {u : En} {st : St}, Kn l (encE E) (done.map encN) o u st → tget st.t s = .v (.bool c) := fun hk => by
              have := hk.ts e (by simpa using he) hej.2 (encN v) s (by rw [List.getElem?_map, hej1, hv]; rfl) hs
              rw [this]
              show enc v.c = _
              rw [hc]; rfl
            have take : ∀ c', c = c' → b = c' → (exO T CT E.n (evAt l E.t (done.set j ⟨v.d, .sc .b c', v.os, v.us, v.fr⟩) o.after.toList) (ehget (finHE E.h done)) o fun c os us fr =>
                  cond (fitE l ⟨o.dst, c, os, us, fr⟩ done.length 0 done && freshE fr E) (exD T CT l E rest (done.set j ⟨v.d, .sc .b c', v.os, v.us, v.fr⟩ ++ [⟨o.dst, c, os, us, fr⟩]) k) none) = some r → ∃ pl, Plan P l (encE E) (pl.map encN) ∧ k ⟨E.n, finTE E.t pl, finHE E.h pl⟩ = some r := by
              intro c' e1 e2 hh
              rw [hset c' e1] at hh
              obtain ⟨c2, os, us, fr, a, bb, hd⟩ := exO_ok hp.t hp.c hh
              obtain ⟨g1, g2⟩ := cond_none bb
              simp only [Bool.and_eq_true] at g1
              exact go ⟨o.dst, c2, os, us, fr⟩ rfl (fun st hk => GS.taken hg hjl (by rw [hk.n]; exact hsn) (by rw [e2, ← e1]; exact hval hk) (a.ds hk)) g1.1 g1.2 g2
            have leave : ∀ c', c = c' → (c' == b) = false → (cond (fitE l ⟨o.dst, .v (.tuple ⟨[]⟩), [], [], .no⟩ done.length 0 done) (exD T CT l E rest (done.set j ⟨v.d, .sc .b c', v.os, v.us, v.fr⟩ ++ [⟨o.dst, .v (.tuple ⟨[]⟩), [], [], .no⟩]) k) none) = some r → ∃ pl, Plan P l (encE E) (pl.map encN) ∧ k ⟨E.n, finTE E.t pl, finHE E.h pl⟩ = some r := by
              intro c' e1 e2 hh
              rw [hset c' e1] at hh
              obtain ⟨g1, g2⟩ := cond_none hh
              refine go ⟨o.dst, .v (.tuple ⟨[]⟩), [], [], .no⟩ rfl (fun st hk => ?_) g1 rfl g2
              obtain ⟨dst, op, ty, pos, af, gd⟩ := o
              refine GS.left (b := b) (c := c) hg hjl (by rw [hk.n]; exact hsn) (hval hk) (by rw [e1]; exact e2) (fun d e => by rw [hk.n]; exact hdn d e) ?_
              cases dst <;> rfl
            rcases cond_some h2 with ⟨hcc, h3⟩ | ⟨hcc, h3⟩
            · rcases cond_some h3 with ⟨hb, h4⟩ | ⟨hb, h4⟩
              · exact take true hcc hb h4
              · exact leave true hcc (by rw [hb]; rfl) h4
            · rcases cond_some h3 with ⟨hb, h4⟩ | ⟨hb, h4⟩
              · exact leave false hcc (by rw [hb]; rfl) h4
              · exact take false hcc hb h4
          · rename_i hc
            obtain ⟨h1, h2⟩ := cond_none h
            simp only [Bool.and_eq_true] at h1
            obtain ⟨⟨q1, q2⟩, q3⟩ := h1
            obtain ⟨g1, g2⟩ := cond_none h2
            have hsn : s < E.n := Nat.le_of_ble_eq_true q2
            have hdn : ∀ d, o.dst = some d → d < E.n := fun d e => by
              simp only [e, dstIn] at q3
              exact Nat.le_of_ble_eq_true q3
            obtain ⟨e, he, hej⟩ := List.any_eq_true.1 q1
            simp only [Bool.and_eq_true] at hej
            have hej1 := Nat.eq_of_beq_eq_true hej.1
            have hjl : (l.toArray[j]?).bind (·.dst) = some s := by
              have hj := (List.getElem?_eq_some_iff.1 hv).1
              have hpl := hpd.len
              rw [List.length_map] at hpl
              have hlj : l[j]? = some l[j] := List.getElem?_eq_getElem (by omega)
              have := (hpd.step j _ (encN v) hlj (by rw [List.getElem?_map, hv]; rfl)).1
              simp only [List.getElem?_toArray, hlj, Option.bind_some, this]
              exact hs
            refine go ⟨o.dst, .v (.tuple ⟨[]⟩), [], [], .no⟩ rfl (fun st hk => ?_) g1 rfl g2
            have hval : tget st.t s = .v undef := by
              have := hk.ts e (by simpa using he) hej.2 (encN v) s (by rw [List.getElem?_map, hej1, hv]; rfl) hs
              rw [this]
              show enc v.c = _
              rw [hc]; rfl
            obtain ⟨dst, op, ty, pos, af, gd⟩ := o
            refine GS.leftU (b := b) hg hjl (by rw [hk.n]; exact hsn) hval (fun d e => by rw [hk.n]; exact hdn d e) ?_
            cases dst <;> rfl
          · cases h
        · cases h
      · cases h
theorem exD_region {l : List Oper} {E : ESt} {R : Type} {k : ESt → Option R} {r : R} {id : Nat} (h : exD T CT l E l [] k = some r) : AC P (.region id l.toArray true) (encE E) (fun x s => x = .normal ∧ ∃ E', s = encE E' ∧ k E' = some r) := by
  obtain ⟨pl, h1, h2⟩ := exD_ok hp h rfl ⟨by simp, fun j o u _ hu => by simp at hu, fun i j v u _ hv => by simp at hv, fun j u hu => by simp at hu⟩
  refine AC.plan hp.m h1 ⟨rfl, _, ?_, h2⟩
  simp only [encE, encT_fin, encH_fin]
theorem exL_region {l : List Oper} {E : ESt} {R : Type} {k : ESt → Option R} {r : R} {id : Nat} (h : exL T CT l l E k = some r) : AC P (.region id l.toArray false) (encE E) (fun x s => x = .normal ∧ ∃ E', s = encE E' ∧ k E' = some r) := by
  refine AC.region ?_
  have := exL_ok hp h
  intro w0 Rd0 e a w Q hg hn
  exact this w0 Rd0 e a w Q hg fun st' hs => hn st' ⟨rfl, hs⟩
end
end
end Go.Proofs.Ytggnolfcgaglfaa
