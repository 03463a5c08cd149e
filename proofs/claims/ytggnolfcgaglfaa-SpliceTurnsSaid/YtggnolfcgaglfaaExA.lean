/- Typed symbolic values: codes of types, values that have a code, and what they are among the values of 'Sym'. -/
import Derived.Test.YtggnolfcgaglfaaSymU
set_option linter.unusedVariables false
set_option linter.unusedSimpArgs false
namespace Go.Proofs.Ytggnolfcgaglfaa
open Go Go.RowKit

/-- codes: whole numbers of a kind, truth values, slices of rows, pairs, nothing -/
inductive Sc where
  | i (k : IntKind)
  | b
  | sl (r : Sc)
  | pr (x y : Sc)
  | u
@[reducible] def Sc.Val : Sc → Type
  | .i _ => Int
  | .b => Bool
  | .sl r => List r.Val
  | .pr x y => x.Val × y.Val
  | .u => Unit
/-- how many cells -/
def Sc.w : Sc → Nat
  | .pr x y => x.w + y.w
  | .u => 0
  | .i _ => 1
  | .b => 1
  | .sl _ => 1
def Sc.eqP : (a c : Sc) → Option (PLift (a = c))
  | .i k, .i l => if h : k = l then some ⟨by rw [h]⟩ else none
  | .b, .b => some ⟨rfl⟩
  | .sl r, .sl s => match Sc.eqP r s with
    | some ⟨h⟩ => some ⟨by rw [h]⟩
    | none => none
  | .pr x y, .pr z w => match Sc.eqP x z with
    | some ⟨h⟩ => match Sc.eqP y w with
      | some ⟨g⟩ => some ⟨by rw [h, g]⟩
      | none => none
    | none => none
  | .u, .u => some ⟨rfl⟩
  | _, _ => none
def castS (a c : Sc) (x : a.Val) : Option c.Val := match Sc.eqP a c with
  | some ⟨h⟩ => some (h ▸ x)
  | none => none
theorem castS_ok {a c : Sc} {x : a.Val} {y : c.Val} (h : castS a c x = some y) : ∃ e : a = c, y = e ▸ x := by
  unfold castS at h
  split at h
  · rename_i e _
    cases h
    exact ⟨e, rfl⟩
  · cases h

/-- the cells of a value -/
def encC : (s : Sc) → s.Val → List AV
  | .i k, x => [.v (.int k x)]
  | .b, x => [.v (.bool x)]
  | .sl r, xs => [.sl false r.w (List.map (encC r) xs)]
  | .pr x y, p => encC x p.1 ++ encC y p.2
  | .u, _ => []
def encS : (s : Sc) → s.Val → AV
  | .i k, x => .v (.int k x)
  | .b, x => .v (.bool x)
  | .sl r, xs => .sl false r.w (List.map (encC r) xs)
  | .pr _ _, _ => .un
  | .u, _ => .un
theorem encC_len : ∀ (s : Sc) (x : s.Val), (encC s x).length = s.w
  | .i _, _ => rfl
  | .b, _ => rfl
  | .sl _, _ => rfl
  | .pr x y, p => by rw [encC, List.length_append, encC_len x, encC_len y]; rfl
  | .u, _ => rfl
theorem encC_one : ∀ (s : Sc) (x : s.Val), ∀ c ∈ encC s x, c.one = true
  | .i _, _, c, h => by simp only [encC, List.mem_singleton] at h; subst h; rfl
  | .b, _, c, h => by simp only [encC, List.mem_singleton] at h; subst h; rfl
  | .sl _, _, c, h => by simp only [encC, List.mem_singleton] at h; subst h; rfl
  | .pr x y, p, c, h => by
    simp only [encC, List.mem_append] at h
    exact h.elim (encC_one x _ c) (encC_one y _ c)
  | .u, _, c, h => by simp [encC] at h
theorem encC_fz : ∀ (s : Sc) (x : s.Val), ∀ c ∈ encC s x, c.fz = true
  | .i _, _, c, h => by simp only [encC, List.mem_singleton] at h; subst h; rfl
  | .b, _, c, h => by simp only [encC, List.mem_singleton] at h; subst h; rfl
  | .sl _, _, c, h => by simp only [encC, List.mem_singleton] at h; subst h; rfl
  | .pr x y, p, c, h => by
    simp only [encC, List.mem_append] at h
    exact h.elim (encC_fz x _ c) (encC_fz y _ c)
  | .u, _, c, h => by simp [encC] at h

/-- what is known of a value, typed -/
inductive EV where
  | un
  | sc (s : Sc) (x : s.Val)
  | nil
  | ts (r : Sc) (xs : List r.Val)
  | v (x : Value)
  | ow (k : Nat)
  | pt (k o : Nat)
  | pe (k : Nat) (i : Int) (sz o : Nat)
  | sw (k : Nat) (l n : Int) (sz : Nat)
  | mp (k : Nat)
  | fp (cs : List EV)
  | ag (cs : List EV)
  | tu (cs : List EV)
  | cl (fn : Fn) (fs cs : List EV)
mutual
def enc : EV → AV
  | .un => .un
  | .sc s x => encS s x
  | .nil => .sl true 0 []
  | .ts r xs => .sl true r.w (List.map (encC r) xs)
  | .v x => .v x
  | .ow k => .ow k
  | .pt k o => .pt k o
  | .pe k i sz o => .pe k i.toNat sz o
  | .sw k l n sz => .sw k l.toNat n.toNat sz
  | .mp k => .mp k
  | .fp cs => .fp (encL cs)
  | .ag cs => .ag (encL cs)
  | .tu cs => .tu (encL cs)
  | .cl fn fs cs => .cl fn (encL fs) (encL cs)
def encL : List EV → List AV
  | [] => []
  | c :: cs => enc c :: encL cs
end
theorem encL_map : ∀ cs : List EV, encL cs = cs.map enc
  | [] => rfl
  | c :: cs => by rw [encL, encL_map cs]; rfl
theorem encL_append (cs ds : List EV) : encL (cs ++ ds) = encL cs ++ encL ds := by rw [encL_map, encL_map, encL_map, List.map_append]
theorem encL_length (cs : List EV) : (encL cs).length = cs.length := by rw [encL_map, List.length_map]
def splitC : (s : Sc) → s.Val → List EV
  | .i k, x => [.sc (.i k) x]
  | .b, x => [.sc .b x]
  | .sl r, xs => [.sc (.sl r) xs]
  | .pr x y, p => splitC x p.1 ++ splitC y p.2
  | .u, _ => []
theorem encL_split : ∀ (s : Sc) (x : s.Val), encL (splitC s x) = encC s x
  | .i _, _ => rfl
  | .b, _ => rfl
  | .sl _, _ => rfl
  | .pr x y, p => by rw [splitC, encL_append, encL_split x, encL_split y]; rfl
  | .u, _ => rfl
/-- a value of a code, in a slot -/
def valE : (s : Sc) → s.Val → EV
  | .pr x y, p => .ag (splitC (.pr x y) p)
  | .u, p => .ag []
  | .i k, x => .sc (.i k) x
  | .b, x => .sc .b x
  | .sl r, x => .sc (.sl r) x

/-! ### known as less -/
def Wk (c c' : AV) : Prop := ∀ (Rd : Nat → Nat → Value → Prop) E u, VR Rd E c u → VR Rd E c' u
theorem Wk.refl (c : AV) : Wk c c := fun _ _ _ h => h
theorem Wk.trans {a c d : AV} (h : Wk a c) (k : Wk c d) : Wk a d := fun _ _ _ x => k _ _ _ (h _ _ _ x)
inductive WkL : List AV → List AV → Prop
  | nil : WkL [] []
  | cons {c c' : AV} {cs cs' : List AV} (h : Wk c c') (hs : WkL cs cs') : WkL (c :: cs) (c' :: cs')
theorem WkL.refl : ∀ cs : List AV, WkL cs cs
  | [] => .nil
  | c :: cs => .cons (Wk.refl c) (WkL.refl cs)
theorem WkL.append {a c d e : List AV} (h : WkL a c) (k : WkL d e) : WkL (a ++ d) (c ++ e) := by
  induction h with
  | nil => exact k
  | cons h hs ih => exact .cons h ih
theorem WkL.len {a c : List AV} (h : WkL a c) : c.length = a.length := by
  induction h with
  | nil => rfl
  | cons _ _ ih => simp [ih]
theorem WkL.get {a c : List AV} (h : WkL a c) : ∀ (j : Nat) x, a[j]? = some x → ∃ y, c[j]? = some y ∧ Wk x y := by
  induction h with
  | nil => intro j x hx; simp at hx
  | cons h hs ih =>
    intro j x hx
    cases j with
    | zero => simp at hx; subst hx; exact ⟨_, rfl, h⟩
    | succ j => exact ih j x (by simpa using hx)
theorem WkL.lr {a c : List AV} (h : WkL a c) {Rd : Nat → Nat → Value → Prop} {E : Option Env} {us : List Value} (hl : LR (VR Rd E) a us) : LR (VR Rd E) c us := by
  refine ⟨by rw [hl.1, h.len], fun j y u hy hu => ?_⟩
  have hj : j < a.length := by
    have := (List.getElem?_eq_some_iff.1 hy).1
    rw [h.len] at this; exact this
  obtain ⟨y', hy', hw⟩ := h.get j _ (List.getElem?_eq_getElem hj)
  rw [hy] at hy'
  cases hy'
  exact hw _ _ _ (hl.2 j _ u (List.getElem?_eq_getElem hj) hu)
theorem Wk.tight {sz : Nat} {rows : List (List AV)} : Wk (.sl true sz rows) (.sl false sz rows) := by
  intro Rd E u h
  cases h with
  | sl us hw h1c hl hc h1 h2 h3 ha => exact .sl us hw h1c hl hc h1 h2 (by simp) ha
theorem Wk.empty {t : Bool} {sz sz' : Nat} (h : t = false) : Wk (.sl true sz []) (.sl t sz' []) := by
  intro Rd E u h
  cases h with
  | sl us hw h1c hl hc h1 h2 h3 ha => exact .sl us (by simp) (by simp) hl hc h1 h2 (by simp [*]) ha
theorem Wk.empty' {t : Bool} {sz sz' : Nat} : Wk (.sl t sz []) (.sl t sz' []) := by
  intro Rd E u h
  cases h with
  | sl us hw h1c hl hc h1 h2 h3 ha => exact .sl us (by simp) (by simp) hl hc h1 h2 h3 ha
theorem Wk.ag {cs cs' : List AV} (h : WkL cs cs') : Wk (.ag cs) (.ag cs') := by
  intro Rd E u hv
  obtain ⟨us, rfl, hl⟩ := VR.ag_inv hv
  have := h.lr hl
  exact .ag us this.1 this.2
theorem Wk.tu {cs cs' : List AV} (h : WkL cs cs') : Wk (.tu cs) (.tu cs') := by
  intro Rd E u hv
  obtain ⟨us, rfl, hl⟩ := VR.tu_inv hv
  have := h.lr hl
  exact .tu us this.1 this.2
theorem Wk.clM {fn : Fn} {fs fs' cs cs' : List AV} (h : WkL fs fs') (k : WkL cs cs') : Wk (.cl fn fs cs) (.cl fn fs' cs') := by
  intro Rd E u hv
  cases hv with
  | cl us xs hl hl2 hc hc2 =>
    have h1 := h.lr ⟨hl, hc⟩
    have h2 := k.lr ⟨hl2, hc2⟩
    exact .cl us xs h1.1 h2.1 h1.2 h2.2
/-- rows, cell by cell -/
inductive WkR : List (List AV) → List (List AV) → Prop
  | nil : WkR [] []
  | cons {r r' : List AV} {rs rs' : List (List AV)} (h : WkL r r') (hs : WkR rs rs') : WkR (r :: rs) (r' :: rs')
theorem WkR.flat {a c : List (List AV)} (h : WkR a c) : WkL a.flatten c.flatten := by
  induction h with
  | nil => exact .nil
  | cons h hs ih => simpa using h.append ih
theorem WkR.len {a c : List (List AV)} (h : WkR a c) : c.length = a.length := by
  induction h with
  | nil => rfl
  | cons _ _ ih => simp [ih]
theorem WkR.wid {a c : List (List AV)} {sz : Nat} (h : WkR a c) (hw : ∀ r ∈ a, r.length = sz) : ∀ r ∈ c, r.length = sz := by
  induction h with
  | nil => simp
  | cons h hs ih =>
    intro r hr
    rcases List.mem_cons.1 hr with rfl | hr
    · rw [h.len]; exact hw _ (by simp)
    · exact ih (fun x hx => hw x (by simp [hx])) r hr
theorem WkR.refl : ∀ cs : List (List AV), WkR cs cs
  | [] => .nil
  | c :: cs => .cons (WkL.refl c) (WkR.refl cs)
theorem Wk.rows {t : Bool} {sz : Nat} {a c : List (List AV)} (h : WkR a c) (h1 : ∀ x ∈ c.flatten, x.one = true) : Wk (.sl t sz a) (.sl t sz c) := by
  intro Rd E u hv
  cases hv with
  | sl us hw h1c hl hc g1 g2 g3 ha =>
    have hlr : LR (VR Rd none) a.flatten us := ⟨hl, hc⟩
    have := h.flat.lr hlr
    rw [← h.len]
    exact .sl us (h.wid hw) h1 this.1 this.2 (by rw [h.len]; exact g1) g2 (by rw [h.len]; exact g3) ha

/-! ### of a code -/
def asS (s : Sc) : EV → Option s.Val
  | .sc s' x => castS s' s x
  | .nil => match s with
    | .sl r => some (show List r.Val from [])
    | _ => none
  | .ts r xs => castS (.sl r) s xs
  | _ => none
theorem asS_ok {s : Sc} {c : EV} {x : s.Val} (h : asS s c = some x) : Wk (enc c) (encS s x) := by
  cases c with
  | sc s' y =>
    obtain ⟨rfl, rfl⟩ := castS_ok h
    exact Wk.refl _
  | nil =>
    cases s with
    | sl r =>
      have h' : x = (show List r.Val from []) := (Option.some.inj h).symm
      rw [h']
      exact Wk.empty rfl
    | _ => simp [asS] at h
  | ts r xs =>
    obtain ⟨rfl, rfl⟩ := castS_ok h
    exact Wk.tight
  | _ => simp [asS] at h
end Go.Proofs.Ytggnolfcgaglfaa
