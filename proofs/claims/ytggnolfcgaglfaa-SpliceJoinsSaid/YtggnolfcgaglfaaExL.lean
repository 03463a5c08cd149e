/- Tables of types; structs held against each other. -/
import Derived.Test.YtggnolfcgaglfaaExK
import Derived.ChangeKeysEq
import Derived.Laws.StructEq
import Derived.KernelRfl
set_option linter.unusedVariables false
set_option linter.unusedSimpArgs false
namespace Go.Proofs.Ytggnolfcgaglfaa
open Go Go.RowKit
noncomputable section

structure TGood (P : Program) (t : TypeId) (i : TInfo) : Prop where
  ty : ∀ x, i.ty = some x → tyA P t = some x
  el : ∀ x, i.el = some x → elA P t = some x
  slT : i.slT = true → slT P t = true
  bo : i.bo = true → P.underlying t = some .bool
  ar : ∀ x, i.ar = some x → arA P t = some x
  fd : ∀ (f : Nat) x, i.fd[f]? = some x → fdA P t f = some x
  pl : ∀ z l, i.pl = some (z, l) → ∃ f, plA P t = some (z, f) ∧ ∀ (i : Nat) p, l[i]? = some p → f i = some p
  ze : ∀ x, i.ze = some x → zeroA P t = some x
  mp : ∀ x, i.mp = some x → mapA P t = some x
  ik : ∀ k, i.ik = some k → P.underlying t = some (.int k)
  eq : ∀ s, i.eq = some s → EqOk P t s
def tiF : List (TypeId × TInfo) → TypeId → TInfo
  | [], _ => TInfo.mk none none false false none [] none none none none none none none
  | (j, i) :: l, t => cond (Nat.beq j t) i (tiF l t)
def TiAll (P : Program) (l : List (TypeId × TInfo)) : Prop := ∀ p ∈ l, TGood P p.1 p.2
theorem tiAll_nil {P : Program} : TiAll P [] := fun p h => by cases h
theorem tiAll_cons {P : Program} {t : TypeId} {i : TInfo} {l : List (TypeId × TInfo)} (h : TGood P t i) (hs : TiAll P l) : TiAll P ((t, i) :: l) := fun p hp => by
  rcases List.mem_cons.1 hp with rfl | hp
  · exact h
  · exact hs p hp
theorem tgood_none {P : Program} {t : TypeId} : TGood P t (TInfo.mk none none false false none [] none none none none none none none) :=
  { ty := fun _ h => by cases h
    el := fun _ h => by cases h
    slT := fun h => by cases h
    bo := fun h => by cases h
    ar := fun _ h => by cases h
    fd := fun _ _ h => by simp at h
    pl := fun _ _ h => by cases h
    ze := fun _ h => by cases h
    mp := fun _ h => by cases h
    ik := fun _ h => by cases h
    eq := fun _ h => by cases h }
theorem tiF_good {P : Program} : ∀ {l : List (TypeId × TInfo)}, TiAll P l → ∀ t, TGood P t (tiF l t)
  | [], _, t => tgood_none
  | (j, i) :: l, h, t => by
    simp only [tiF]
    cases hb : Nat.beq j t with
    | true =>
      have := Nat.eq_of_beq_eq_true hb
      subst this
      exact h (j, i) (by simp)
    | false => exact tiF_good (fun p hp => h p (by simp [hp])) t
theorem tok_of {P : Program} {l : List (TypeId × TInfo)} (h : TiAll P l) : TOk P (tiF l) where
  ty := fun t => (tiF_good h t).ty
  el := fun t => (tiF_good h t).el
  slT := fun t => (tiF_good h t).slT
  bo := fun t => (tiF_good h t).bo
  ar := fun t => (tiF_good h t).ar
  fd := fun t => (tiF_good h t).fd
  pl := fun t => (tiF_good h t).pl
  ze := fun t => (tiF_good h t).ze
  mp := fun t => (tiF_good h t).mp
  ik := fun t => (tiF_good h t).ik
  eq := fun t => (tiF_good h t).eq
theorem of_kr {α : Type} {a b : Option α} (h : a = b) : ∀ x, b = some x → a = some x := fun _ hx => h.trans hx
theorem of_kb {a b : Bool} (h : a = b) : b = true → a = true := fun hx => h.trans hx
def boB (P : Program) (t : TypeId) : Bool := match P.underlying t with
  | some .bool => true
  | _ => false
theorem of_kbo {P : Program} {t : TypeId} {b : Bool} (h : boB P t = b) : b = true → P.underlying t = some .bool := fun hx => by
  have h := h.trans hx
  unfold boB at h
  split at h
  · assumption
  · cases h
def ikF (P : Program) (t : TypeId) : Option IntKind := match P.underlying t with
  | some (.int k) => some k
  | _ => none
theorem of_kik {P : Program} {t : TypeId} {b : Option IntKind} (h : ikF P t = b) : ∀ k, b = some k → P.underlying t = some (.int k) := fun k hx => by
  have h := h.trans hx
  unfold ikF at h
  split at h
  · cases h; assumption
  · cases h
theorem of_kfd {P : Program} {t : TypeId} {l : List (Nat × Bool × Nat)} (h : (List.range l.length).map (fdA P t) = l.map some) : ∀ (f : Nat) x, l[f]? = some x → fdA P t f = some x := fun f x hx => by
  have hlt := (List.getElem?_eq_some_iff.1 hx).1
  have h1 := congrArg (fun q => q[f]?) h
  simp only [List.getElem?_map, List.getElem?_range hlt, hx, Option.map_some] at h1
  exact Option.some.inj h1
def plF (P : Program) (t : TypeId) (n : Nat) : Option (List Value × List (Option (Nat × Nat))) := (plA P t).map fun p => (p.1, (List.range n).map p.2)
theorem of_kpl {P : Program} {t : TypeId} {o : Option (List Value × List (Nat × Nat))} (h : (match o with
    | some (_, l) => plF P t l.length
    | none => none) = o.map fun p => (p.1, p.2.map some)) : ∀ z l, o = some (z, l) → ∃ f, plA P t = some (z, f) ∧ ∀ (i : Nat) p, l[i]? = some p → f i = some p := fun z l hx => by
  subst hx
  simp only [plF, Option.map_some] at h
  cases hp : plA P t with
  | none => rw [hp] at h; cases h
  | some q =>
    rw [hp] at h
    simp only [Option.map_some, Option.some.injEq, Prod.mk.injEq] at h
    refine ⟨q.2, by rw [← h.1], fun i p hi => ?_⟩
    have hlt := (List.getElem?_eq_some_iff.1 hi).1
    have h1 := congrArg (fun q => q[i]?) h.2
    simp only [List.getElem?_map, List.getElem?_range hlt, hi, Option.map_some] at h1
    exact Option.some.inj h1
/-! ### structs held against each other -/
def fdS (P : Program) (f : Field) (o : Nat) : Sc → Bool
  | .i k => decide (f.offset = o) && f.name != "_" && (match P.underlying f.type with
    | some (.int l) => decide (k = l)
    | _ => false)
  | .b => decide (f.offset = o) && f.name != "_" && (match P.underlying f.type with
    | some .bool => true
    | _ => false)
  | _ => false
def fdsS (P : Program) : List Field → Nat → Sc → Bool
  | [f], o, .i k => fdS P f o (.i k)
  | [f], o, .b => fdS P f o .b
  | f :: fs, o, .pr x y => fdS P f o x && fdsS P fs (o + 1) y
  | [], _, .u => true
  | _, _, _ => false
theorem fdS_ok {P : Program} {f : Field} {o : Nat} {s : Sc} (h : fdS P f o s = true) {xs ys : Array Value} {x y : s.Val} {rx ry : List Value} (hx : xs.toList.drop o = keyVs s x ++ rx) (hy : ys.toList.drop o = keyVs s y ++ ry) (d : Nat) (w : World) :
    f.name ≠ "_" ∧ ∃ a b, (part f.type xs f.offset).run P w = .ok a w ∧ (part f.type ys f.offset).run P w = .ok b w ∧ (Op.equalIn (d + 1) f.type a b).run P w = .ok (eqV s x y) w ∧ xs.toList.drop (o + 1) = rx ∧ ys.toList.drop (o + 1) = ry := by
  have get : ∀ {zs : Array Value} {v : Value} {r : List Value}, zs.toList.drop o = [v] ++ r → zs[o]? = some v ∧ zs.toList.drop (o + 1) = r := by
    intro zs v r hz
    constructor
    · have h0 := congrArg (fun l => l[0]?) hz
      simpa using h0
    · have h0 := congrArg (fun l => l.drop 1) hz
      simpa [List.drop_drop, Nat.add_comm] using h0
  cases s with
  | i k =>
    simp only [fdS, Bool.and_eq_true, decide_eq_true_eq, bne_iff_ne, ne_eq] at h
    obtain ⟨⟨h1, h2⟩, h3⟩ := h
    split at h3
    · rename_i l hu
      have h3 := of_decide_eq_true h3
      subst h3 h1
      obtain ⟨g1, g2⟩ := get hx
      obtain ⟨g3, g4⟩ := get hy
      have hp : P.plainKey f.type = true := by simp [Program.plainKey, hu]
      refine ⟨h2, _, _, run_part_plain w hp g1, run_part_plain w hp g3, ?_, g2, g4⟩
      have := run_equalIn_int w d f.type k k x y hu
      rw [this]
      rfl
    · cases h3
  | b =>
    simp only [fdS, Bool.and_eq_true, decide_eq_true_eq, bne_iff_ne, ne_eq] at h
    obtain ⟨⟨h1, h2⟩, h3⟩ := h
    split at h3
    · rename_i hu
      subst h1
      obtain ⟨g1, g2⟩ := get hx
      obtain ⟨g3, g4⟩ := get hy
      have hp : P.plainKey f.type = true := by simp [Program.plainKey, hu]
      refine ⟨h2, _, _, run_part_plain w hp g1, run_part_plain w hp g3, ?_, g2, g4⟩
      exact run_equalIn_bool w d f.type x y hu
    · cases h3
  | sl r => cases h
  | pr a c => cases h
  | u => cases h
theorem fdsS_ok {P : Program} (d : Nat) (w : World) (xs ys : Array Value) : ∀ (fs : List Field) (o : Nat) (s : Sc) (x y : s.Val), fdsS P fs o s = true → xs.toList.drop o = keyVs s x → ys.toList.drop o = keyVs s y →
    (Op.eqFields (d + 1) xs ys fs).run P w = .ok (eqV s x y) w := by
  intro fs
  induction fs with
  | nil =>
    intro o s x y h hx hy
    cases s <;> first | (cases h; done) | (simp [Op.eqFields, eqV])
  | cons f fs ih =>
    intro o s x y h hx hy
    cases s with
    | i k =>
      cases fs with
      | cons g gs => cases h
      | nil =>
        obtain ⟨h1, a, b, p1, p2, p3, _, _⟩ := fdS_ok (s := .i k) h (x := x) (y := y) (rx := []) (ry := []) (by simpa using hx) (by simpa using hy) d w
        simp only [Op.eqFields, h1, ne_eq, not_false_eq_true, if_true, Sem.run_bind, p1, p2, p3, Result.andThen_ok]
        cases eqV (.i k) x y <;> simp
    | b =>
      cases fs with
      | cons g gs => cases h
      | nil =>
        obtain ⟨h1, a, b, p1, p2, p3, _, _⟩ := fdS_ok (s := .b) h (x := x) (y := y) (rx := []) (ry := []) (by simpa using hx) (by simpa using hy) d w
        simp only [Op.eqFields, h1, ne_eq, not_false_eq_true, if_true, Sem.run_bind, p1, p2, p3, Result.andThen_ok]
        cases eqV .b x y <;> simp
    | sl r => cases fs <;> cases h
    | u => cases fs <;> cases h
    | pr p q =>
      have h' : fdS P f o p = true ∧ fdsS P fs (o + 1) q = true := by
        cases fs <;> simpa [fdsS] using h
      obtain ⟨h1, a, b, p1, p2, p3, g1, g2⟩ := fdS_ok h'.1 (x := x.1) (y := y.1) hx hy d w
      have := ih (o + 1) q x.2 y.2 h'.2 g1 g2
      simp only [Op.eqFields, h1, ne_eq, not_false_eq_true, if_true, Sem.run_bind, p1, p2, p3, Result.andThen_ok, eqV]
      cases eqV p x.1 y.1 with
      | false => simp
      | true => simpa using this
theorem eqOk_of {P : Program} {t : TypeId} {s : Sc} {fs : Array Field} (hk : s.key = true) (h1 : P.underlying t = some (.struct fs)) (h5 : P.stoodInHeld t = false) (h2 : P.eqGuardType P.depth t = false)
    (h3 : fdsS P fs.toList 0 s = true) : EqOk P t s := by
  refine ⟨hk, fun x y w => ⟨?_, fun op a b => ?_⟩⟩
  · have hf : P.fieldsOf t = fs := by simp [Program.fieldsOf, h1]
    show (Op.equalIn (9999 + 1) _ _ _).run P w = _
    rw [run_equalIn_struct w 9999 t _ _ (by rw [hf]; exact h1) h5, hf]
    exact fdsS_ok 9998 w _ _ fs.toList 0 s x y h3 (by simp) (by simp)
  · unfold eqGuard
    cases op <;> simp [Sem.run_bind, h2]
def stF (P : Program) (t : TypeId) : Option (Array Field) := match P.underlying t with
  | some (.struct fs) => some fs
  | _ => none
def eqB (P : Program) (t : TypeId) (s : Sc) : Bool := s.key && !(P.stoodInHeld t) && !(P.eqGuardType P.depth t) && (match stF P t with
  | some fs => fdsS P fs.toList 0 s
  | none => false)
theorem of_keq {P : Program} {t : TypeId} {o : Option Sc} (h : (match o with
    | some s => eqB P t s
    | none => true) = true) : ∀ s, o = some s → EqOk P t s := fun s hx => by
  subst hx
  simp only [eqB, Bool.and_eq_true, Bool.not_eq_true'] at h
  obtain ⟨⟨⟨h1, h2⟩, h3⟩, h4⟩ := h
  split at h4
  · rename_i fs hf
    unfold stF at hf
    split at hf
    · cases hf
      exact eqOk_of h1 (by assumption) h2 h3 h4
    · cases hf
  · cases h4
/-- a piece of code, as it is reckoned where no form is asked at its own place -/
noncomputable def exC0 (T : TypeId → TInfo) (CT : List Ctr) (N : Nat) (c : Code) : ExT := match c with
  | .region _ ops draw => fun _ E _ k => cond draw (exD T CT ops.toList (preE ops.toList E) ops.toList [] (k .normal)) (exL T CT ops.toList ops.toList E (k .normal))
  | .seq a b => fun pl E _ k => exC T CT N a pl.l E _ fun x E' => match x with
      | .normal => exC T CT N b pl.r E' _ k
      | x => k x E'
  | .cond c a b => fun pl E _ k => match evx (eget E.t) c with
      | .sc .b bb => match c with
        | .tmp i => cond bb (exC T CT N a pl.l ⟨E.n, (i, .sc .b true) :: E.t, E.h⟩ _ k) (exC T CT N b pl.r ⟨E.n, (i, .sc .b false) :: E.t, E.h⟩ _ k)
        | _ => cond bb (exC T CT N a pl.l E _ k) (exC T CT N b pl.r E _ k)
      | _ => none
  | .block id a => fun pl E _ k => exC T CT N a pl.l E _ fun x E' => match x with
      | .exit i => cond (Nat.beq i id) (k .normal E') (k (.exit i) E')
      | x => k x E'
  | c => exC T CT N c
theorem ctAll_nil {P : Program} : ∀ c ∈ ([] : List Ctr), c.ok P := fun c h => by cases h
theorem ctAll_cons {P : Program} {c : Ctr} {l : List Ctr} (h : c.ok P) (hs : ∀ d ∈ l, d.ok P) : ∀ d ∈ c :: l, d.ok P := fun d hd => by
  rcases List.mem_cons.1 hd with rfl | hd
  · exact h
  · exact hs d hd
end
end Go.Proofs.Ytggnolfcgaglfaa
