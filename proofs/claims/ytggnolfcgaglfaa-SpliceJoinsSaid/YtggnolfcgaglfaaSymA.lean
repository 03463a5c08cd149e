/- Symbolic values: what a frame's temporaries and a call's own objects are known to be; how these stand to the model's values. -/
import Derived.Test.YtggnolfcgaglfaaGlob
set_option linter.unusedVariables false
set_option linter.unusedSimpArgs false
namespace Go.Proofs.Ytggnolfcgaglfaa
open Go Go.RowKit

/-- what is known of a value: nothing; it is this one; a slice that is never written again, row by row ('tight': it ends at its capacity); the slice of an object of the call's own; a pointer to a cell of such an object; a pointer to cells that are never written again; a struct or an array; several; a map; a function. -/
inductive AV where
  | un
  | v (x : Value)
  | sl (tight : Bool) (sz : Nat) (rows : List (List AV))
  | ow (k : Nat)
  | pt (k o : Nat)
  | pe (k i sz o : Nat)
  | sw (k l n sz : Nat)
  | fp (cs : List AV)
  | ag (cs : List AV)
  | tu (vs : List AV)
  | mp (k : Nat)
  | cl (fn : Fn) (fs cs : List AV)
instance : Inhabited AV := ⟨.un⟩

/-- which cells the objects have -/
structure Env where
  blk : Nat → Option Nat
  sv : Nat → Value
  lent : Nat → Nat

/-- list by list -/
def LR (R : AV → Value → Prop) (cs : List AV) (us : List Value) : Prop := us.length = cs.length ∧ ∀ (j : Nat) c u, cs[j]? = some c → us[j]? = some u → R c u

/-- a value of one cell, by what is known of it -/
def AV.one : AV → Bool
  | .v x => x.oneCell'
  | .sl .. | .ow _ | .pt .. | .pe .. | .sw .. | .fp _ | .mp _ | .cl .. => true
  | .un | .ag _ | .tu _ => false

inductive VR (Rd : Nat → Nat → Value → Prop) : Option Env → AV → Value → Prop
  | un {E x} : VR Rd E .un x
  | v {E x} : VR Rd E (.v x) x
  | sl {E tight sz rows a cap} (us : List Value) (hw : ∀ r ∈ rows, r.length = sz) (h1c : ∀ c ∈ rows.flatten, c.one = true) (hl : us.length = rows.flatten.length)
      (hc : ∀ (j : Nat) c u, rows.flatten[j]? = some c → us[j]? = some u → VR Rd none c u) (h1 : rows.length ≤ cap) (h2 : cap ≤ maxLen) (h3 : tight = true → cap = rows.length)
      (ha : us ≠ [] → ∃ b o, a = some ⟨b, o, none⟩ ∧ ∀ (j : Nat) u, us[j]? = some u → Rd b (o + j) u) : VR Rd E (.sl tight sz rows) (.slice a rows.length cap)
  | ow {e k} : VR Rd (some e) (.ow k) (e.sv k)
  | pt {e k o b} (h : e.blk k = some b) : VR Rd (some e) (.pt k o) (.pointer (some ⟨b, o, none⟩))
  | pe {e k i sz o b} (h : e.blk k = some b) : VR Rd (some e) (.pe k i sz o) (.pointer (some ⟨b, i * sz + o, none⟩))
  | sw {e k l n sz b o cap} (h : e.blk k = some b) (ho : 0 < n → o = l * sz) (h1 : n ≤ cap) (h2 : cap ≤ maxLen) : VR Rd (some e) (.sw k l n sz) (.slice (some ⟨b, o, none⟩) n cap)
  | fp {E cs b o} (us : List Value) (hl : us.length = cs.length) (hc : ∀ (j : Nat) c u, cs[j]? = some c → us[j]? = some u → VR Rd none c u)
      (ha : ∀ (j : Nat) u, us[j]? = some u → Rd b (o + j) u) : VR Rd E (.fp cs) (.pointer (some ⟨b, o, none⟩))
  | ag {E cs} (us : List Value) (hl : us.length = cs.length) (hc : ∀ (j : Nat) c u, cs[j]? = some c → us[j]? = some u → VR Rd E c u) : VR Rd E (.ag cs) (.agg us.toArray)
  | tu {E cs} (us : List Value) (hl : us.length = cs.length) (hc : ∀ (j : Nat) c u, cs[j]? = some c → us[j]? = some u → VR Rd E c u) : VR Rd E (.tu cs) (.tuple us.toArray)
  | mp {e k b} (h : e.blk k = some b) : VR Rd (some e) (.mp k) (.map (some b))
  | cl {E fn fs cs} (us xs : List Value) (hl : us.length = fs.length) (hl2 : xs.length = cs.length) (hc : ∀ (j : Nat) c u, fs[j]? = some c → us[j]? = some u → VR Rd E c u)
      (hc2 : ∀ (j : Nat) c u, cs[j]? = some c → xs[j]? = some u → VR Rd E c u) : VR Rd E (.cl fn fs cs) (.func fn us.toArray xs.toArray)

theorem VR.mono {Rd Rd' : Nat → Nat → Value → Prop} (hR : ∀ b o u, Rd b o u → Rd' b o u) {E : Option Env} {c : AV} {u : Value} (h : VR Rd E c u) : VR Rd' E c u := by
  induction h with
  | un => exact .un
  | v => exact .v
  | sl us hw h1c hl hc h1 h2 h3 ha ih =>
    refine .sl us hw h1c hl ih h1 h2 h3 fun hne => ?_
    obtain ⟨b, o, rfl, h⟩ := ha hne
    exact ⟨b, o, rfl, fun j u hj => hR _ _ _ (h j u hj)⟩
  | ow => exact .ow
  | pt h => exact .pt h
  | pe h => exact .pe h
  | sw h ho h1 h2 => exact .sw h ho h1 h2
  | fp us hl hc ha ih => exact .fp us hl ih fun j u hj => hR _ _ _ (ha j u hj)
  | ag us hl hc ih => exact .ag us hl ih
  | tu us hl hc ih => exact .tu us hl ih
  | mp h => exact .mp h
  | cl us xs hl hl2 hc hc2 ih ih2 => exact .cl us xs hl hl2 ih ih2

/-- what is never written again hangs on no object -/
theorem VR.some_of_none {Rd : Nat → Nat → Value → Prop} {E : Option Env} {c : AV} {u : Value} (h : VR Rd none c u) : VR Rd E c u := by
  generalize hE : (none : Option Env) = E0 at h
  induction h with
  | un => exact .un
  | v => exact .v
  | sl us hw h1c hl hc h1 h2 h3 ha ih => exact .sl us hw h1c hl hc h1 h2 h3 ha
  | ow => cases hE
  | pt h => cases hE
  | pe h => cases hE
  | sw h => cases hE
  | fp us hl hc ha ih => exact .fp us hl hc ha
  | ag us hl hc ih => exact .ag us hl fun j c u h1 h2 => ih j c u h1 h2 hE
  | tu us hl hc ih => exact .tu us hl fun j c u h1 h2 => ih j c u h1 h2 hE
  | mp h => cases hE
  | cl us xs hl hl2 hc hc2 ih ih2 => exact .cl us xs hl hl2 (fun j c u h1 h2 => ih j c u h1 h2 hE) (fun j c u h1 h2 => ih2 j c u h1 h2 hE)

mutual
/-- does it hang on object k? -/
def AV.ment (k : Nat) : AV → Bool
  | .ow j => j == k
  | .pt j _ => j == k
  | .pe j _ _ _ => j == k
  | .sw j _ _ _ => j == k
  | .mp j => j == k
  | .ag cs => AV.mentL k cs
  | .tu cs => AV.mentL k cs
  | .cl _ fs cs => AV.mentL k fs || AV.mentL k cs
  | _ => false
def AV.mentL (k : Nat) : List AV → Bool
  | [] => false
  | c :: cs => AV.ment k c || AV.mentL k cs
end

theorem mentL_false {k : Nat} : ∀ {cs : List AV}, AV.mentL k cs = false → ∀ (j : Nat) c, cs[j]? = some c → c.ment k = false
  | [], _, j, c, h => by simp at h
  | x :: cs, hm, j, c, h => by
    simp only [AV.mentL, Bool.or_eq_false_iff] at hm
    cases j with
    | zero => simp at h; exact h ▸ hm.1
    | succ j => exact mentL_false hm.2 j c (by simpa using h)

/-- the environment turned at one object -/
theorem VR.env {Rd : Nat → Nat → Value → Prop} {E : Option Env} {c : AV} {u : Value} (h : VR Rd E c u) {e e' : Env} (hE : E = some e) (k : Nat) (hm : c.ment k = false)
    (hb : ∀ j, j ≠ k → e'.blk j = e.blk j) (hs : ∀ j, j ≠ k → e'.sv j = e.sv j) : VR Rd (some e') c u := by
  induction h with
  | un => exact .un
  | v => exact .v
  | sl us hw h1c hl hc h1 h2 h3 ha ih => exact .sl us hw h1c hl hc h1 h2 h3 ha
  | @ow e0 j =>
    cases hE
    have hj : j ≠ k := by simpa [AV.ment] using hm
    rw [← hs j hj]; exact .ow
  | @pt e0 j o b h =>
    cases hE
    have hj : j ≠ k := by simpa [AV.ment] using hm
    exact .pt (by rw [hb j hj]; exact h)
  | @pe e0 j i sz o b h =>
    cases hE
    have hj : j ≠ k := by simpa [AV.ment] using hm
    exact .pe (by rw [hb j hj]; exact h)
  | @sw e0 j l n sz b o cap h ho h1 h2 =>
    cases hE
    have hj : j ≠ k := by simpa [AV.ment] using hm
    exact .sw (by rw [hb j hj]; exact h) ho h1 h2
  | fp us hl hc ha ih => exact .fp us hl hc ha
  | @ag E0 cs us hl hc ih => exact .ag us hl fun j c u h1 h2 => ih j c u h1 h2 hE (mentL_false (by simpa [AV.ment] using hm) j c h1)
  | @tu E0 cs us hl hc ih => exact .tu us hl fun j c u h1 h2 => ih j c u h1 h2 hE (mentL_false (by simpa [AV.ment] using hm) j c h1)
  | @mp e0 j b h =>
    cases hE
    have hj : j ≠ k := by simpa [AV.ment] using hm
    exact .mp (by rw [hb j hj]; exact h)
  | @cl E0 fn fs cs us xs hl hl2 hc hc2 ih ih2 =>
    simp only [AV.ment, Bool.or_eq_false_iff] at hm
    exact .cl us xs hl hl2 (fun j c u h1 h2 => ih j c u h1 h2 hE (mentL_false hm.1 j c h1)) (fun j c u h1 h2 => ih2 j c u h1 h2 hE (mentL_false hm.2 j c h1))

/-- the same environment, spelled otherwise -/
theorem VR.envEq {Rd : Nat → Nat → Value → Prop} {E : Option Env} {c : AV} {u : Value} (h : VR Rd E c u) {e e' : Env} (hE : E = some e) (hb : ∀ j, e'.blk j = e.blk j) (hs : ∀ j, e'.sv j = e.sv j) : VR Rd (some e') c u := by
  induction h with
  | un => exact .un
  | v => exact .v
  | sl us hw h1c hl hc h1 h2 h3 ha ih => exact .sl us hw h1c hl hc h1 h2 h3 ha
  | @ow e0 j => cases hE; rw [← hs j]; exact .ow
  | @pt e0 j o b h => cases hE; exact .pt (by rw [hb j]; exact h)
  | @pe e0 j i sz o b h => cases hE; exact .pe (by rw [hb j]; exact h)
  | @sw e0 j l n sz b o cap h ho h1 h2 => cases hE; exact .sw (by rw [hb j]; exact h) ho h1 h2
  | fp us hl hc ha ih => exact .fp us hl hc ha
  | ag us hl hc ih => exact .ag us hl fun j c u h1 h2 => ih j c u h1 h2 hE
  | tu us hl hc ih => exact .tu us hl fun j c u h1 h2 => ih j c u h1 h2 hE
  | @mp e0 j b h => cases hE; exact .mp (by rw [hb j]; exact h)
  | cl us xs hl hl2 hc hc2 ih ih2 => exact .cl us xs hl hl2 (fun j c u h1 h2 => ih j c u h1 h2 hE) (fun j c u h1 h2 => ih2 j c u h1 h2 hE)

theorem VR.oneCell {Rd : Nat → Nat → Value → Prop} {E : Option Env} {c : AV} {u : Value} (h : VR Rd E c u) (h1 : c.one = true) (hs : ∀ e k, E = some e → c = .ow k → (e.sv k).oneCell' = true) : u.oneCell' = true := by
  cases h with
  | un => simp [AV.one] at h1
  | v => simpa [AV.one] using h1
  | sl => rfl
  | ow => exact hs _ _ rfl rfl
  | pt => rfl
  | pe => rfl
  | sw => rfl
  | fp => rfl
  | ag => simp [AV.one] at h1
  | tu => simp [AV.one] at h1
  | mp => rfl
  | cl => rfl

theorem LR.get {R : AV → Value → Prop} {cs : List AV} {us : List Value} (h : LR R cs us) {j : Nat} {c : AV} (hc : cs[j]? = some c) : ∃ u, us[j]? = some u ∧ R c u := by
  have hj : j < us.length := by rw [h.1]; exact (List.getElem?_eq_some_iff.1 hc).1
  exact ⟨us[j], List.getElem?_eq_getElem hj, h.2 j c _ hc (List.getElem?_eq_getElem hj)⟩
theorem LR.imp {R R' : AV → Value → Prop} {cs : List AV} {us : List Value} (h : LR R cs us) (hr : ∀ c u, R c u → R' c u) : LR R' cs us := ⟨h.1, fun j c u h1 h2 => hr _ _ (h.2 j c u h1 h2)⟩
theorem LR.nil {R : AV → Value → Prop} : LR R [] [] := ⟨rfl, by simp⟩
theorem LR.cons {R : AV → Value → Prop} {c : AV} {u : Value} {cs : List AV} {us : List Value} (h : R c u) (hs : LR R cs us) : LR R (c :: cs) (u :: us) :=
  ⟨by simp [hs.1], fun j c' u' h1 h2 => by
    cases j with
    | zero => simp at h1 h2; subst h1; subst h2; exact h
    | succ j => exact hs.2 j c' u' (by simpa using h1) (by simpa using h2)⟩
theorem LR.append {R : AV → Value → Prop} {cs ds : List AV} {us xs : List Value} (h : LR R cs us) (k : LR R ds xs) : LR R (cs ++ ds) (us ++ xs) := by
  refine ⟨by simp [h.1, k.1], fun j c u h1 h2 => ?_⟩
  by_cases hj : j < cs.length
  · rw [List.getElem?_append_left hj] at h1
    rw [List.getElem?_append_left (by rw [h.1]; exact hj)] at h2
    exact h.2 j c u h1 h2
  · rw [List.getElem?_append_right (by omega)] at h1
    rw [List.getElem?_append_right (by rw [h.1]; omega), h.1] at h2
    exact k.2 _ c u h1 h2
theorem LR.take {R : AV → Value → Prop} {cs : List AV} {us : List Value} (h : LR R cs us) (n : Nat) : LR R (cs.take n) (us.take n) := by
  refine ⟨by simp [h.1], fun j c u h1 h2 => ?_⟩
  rw [List.getElem?_take] at h1 h2
  split at h1
  · rename_i hj; simp [hj] at h2; exact h.2 j c u h1 h2
  · cases h1
theorem LR.drop {R : AV → Value → Prop} {cs : List AV} {us : List Value} (h : LR R cs us) (n : Nat) : LR R (cs.drop n) (us.drop n) := by
  refine ⟨by simp [h.1], fun j c u h1 h2 => ?_⟩
  rw [List.getElem?_drop] at h1 h2
  exact h.2 _ c u h1 h2
theorem LR.set {R : AV → Value → Prop} {cs : List AV} {us : List Value} (h : LR R cs us) (j : Nat) {c : AV} {u : Value} (hu : R c u) : LR R (cs.set j c) (us.set j u) := by
  refine ⟨by simp [h.1], fun i c' u' h1 h2 => ?_⟩
  rw [List.getElem?_set] at h1 h2
  rw [h.1] at h2
  by_cases hij : j = i
  · subst hij
    by_cases hl : j < cs.length
    · simp [hl] at h1 h2; subst h1; subst h2; exact hu
    · simp [hl] at h1
  · simp [hij] at h1 h2; exact h.2 i c' u' h1 h2

theorem VR.ag_inv {Rd : Nat → Nat → Value → Prop} {E : Option Env} {cs : List AV} {u : Value} (h : VR Rd E (.ag cs) u) : ∃ us, u = .agg us.toArray ∧ LR (VR Rd E) cs us := by
  cases h with
  | ag us hl hc => exact ⟨us, rfl, hl, hc⟩
theorem VR.tu_inv {Rd : Nat → Nat → Value → Prop} {E : Option Env} {cs : List AV} {u : Value} (h : VR Rd E (.tu cs) u) : ∃ us, u = .tuple us.toArray ∧ LR (VR Rd E) cs us := by
  cases h with
  | tu us hl hc => exact ⟨us, rfl, hl, hc⟩
theorem VR.v_inv {Rd : Nat → Nat → Value → Prop} {E : Option Env} {x u : Value} (h : VR Rd E (.v x) u) : u = x := by
  cases h; rfl
end Go.Proofs.Ytggnolfcgaglfaa
