/- Names: forgotten, turned; what a callee has made comes into the caller's hands. -/
import Derived.Test.YtggnolfcgaglfaaSymG
set_option linter.unusedVariables false
set_option linter.unusedSimpArgs false
namespace Go.Proofs.Ytggnolfcgaglfaa
open Go Go.RowKit

mutual
/-- the names, turned by π -/
def AV.ren (π : Nat → Nat) : AV → AV
  | .un => .un
  | .v x => .v x
  | .sl tt sz rows => .sl tt sz rows
  | .ow j => .ow (π j)
  | .pt j o => .pt (π j) o
  | .pe j i sz o => .pe (π j) i sz o
  | .sw j l n sz => .sw (π j) l n sz
  | .fp cs => .fp cs
  | .mp j => .mp (π j)
  | .ag cs => .ag (AV.renL π cs)
  | .tu cs => .tu (AV.renL π cs)
  | .cl fn fs cs => .cl fn (AV.renL π fs) (AV.renL π cs)
def AV.renL (π : Nat → Nat) : List AV → List AV
  | [] => []
  | c :: cs => AV.ren π c :: AV.renL π cs
/-- none of its names is of p -/
def AV.nom (p : Nat → Bool) : AV → Bool
  | .un => true
  | .v _ => true
  | .sl _ _ _ => true
  | .fp _ => true
  | .ow j => !p j
  | .pt j _ => !p j
  | .pe j _ _ _ => !p j
  | .sw j _ _ _ => !p j
  | .mp j => !p j
  | .ag cs => AV.nomL p cs
  | .tu cs => AV.nomL p cs
  | .cl _ fs cs => AV.nomL p fs && AV.nomL p cs
def AV.nomL (p : Nat → Bool) : List AV → Bool
  | [] => true
  | c :: cs => AV.nom p c && AV.nomL p cs
end
theorem renL_map (π : Nat → Nat) : ∀ cs : List AV, AV.renL π cs = cs.map (AV.ren π)
  | [] => rfl
  | c :: cs => by rw [AV.renL, renL_map π cs]; rfl
theorem nomL_get {p : Nat → Bool} : ∀ {cs : List AV}, AV.nomL p cs = true → ∀ (j : Nat) c, cs[j]? = some c → c.nom p = true
  | [], _, j, c, h => by simp at h
  | x :: cs, hm, j, c, h => by
    simp only [AV.nomL, Bool.and_eq_true] at hm
    cases j with
    | zero => simp at h; exact h ▸ hm.1
    | succ j => exact nomL_get hm.2 j c (by simpa using h)
theorem nomL_all {p : Nat → Bool} : ∀ {cs : List AV}, (∀ c ∈ cs, c.nom p = true) → AV.nomL p cs = true
  | [], _ => rfl
  | x :: cs, hm => by simp [AV.nomL, hm x (by simp), nomL_all (cs := cs) fun c hc => hm c (by simp [hc])]

theorem VR.ren {Rd : Nat → Nat → Value → Prop} {E : Option Env} {c : AV} {u : Value} (h : VR Rd E c u) {e e' : Env} (hE : E = some e) (π : Nat → Nat) (hb : ∀ j, e'.blk (π j) = e.blk j) (hs : ∀ j, e'.sv (π j) = e.sv j) :
    VR Rd (some e') (c.ren π) u := by
  have keyL : ∀ (cs : List AV) (us : List Value), us.length = cs.length → (∀ (j : Nat) c u, cs[j]? = some c → us[j]? = some u → VR Rd (some e') (c.ren π) u) → us.length = (AV.renL π cs).length ∧ ∀ (j : Nat) c u, (AV.renL π cs)[j]? = some c → us[j]? = some u → VR Rd (some e') c u := by
    intro cs us hl hc
    rw [renL_map]
    refine ⟨by simpa using hl, fun j c u h1 h2 => ?_⟩
    rw [List.getElem?_map] at h1
    obtain ⟨c0, hc0, rfl⟩ := Option.map_eq_some_iff.1 h1
    exact hc j c0 u hc0 h2
  induction h with
  | un => exact .un
  | v => exact .v
  | sl us hw h1c hl hc h1 h2 h3 ha ih => exact .sl us hw h1c hl hc h1 h2 h3 ha
  | @ow e0 j => cases hE; rw [← hs j]; exact .ow
  | @pt e0 j o b h => cases hE; exact .pt (by rw [hb j]; exact h)
  | @pe e0 j i sz o b h => cases hE; exact .pe (by rw [hb j]; exact h)
  | @sw e0 j l n sz b o cap h ho h1 h2 => cases hE; exact .sw (by rw [hb j]; exact h) ho h1 h2
  | fp us hl hc ha ih => exact .fp us hl hc ha
  | @ag E0 cs us hl hc ih =>
    have := keyL cs us hl fun j c u h1 h2 => ih j c u h1 h2 hE
    exact .ag us this.1 this.2
  | @tu E0 cs us hl hc ih =>
    have := keyL cs us hl fun j c u h1 h2 => ih j c u h1 h2 hE
    exact .tu us this.1 this.2
  | @mp e0 j b h => cases hE; exact .mp (by rw [hb j]; exact h)
  | @cl E0 fn fs cs us xs hl hl2 hc hc2 ih ih2 =>
    have h1 := keyL fs us hl fun j c u h1 h2 => ih j c u h1 h2 hE
    have h2 := keyL cs xs hl2 fun j c u h1 h2 => ih2 j c u h1 h2 hE
    exact .cl us xs h1.1 h2.1 h1.2 h2.2

/-- the environment turned at names of p alone -/
theorem VR.envp {Rd : Nat → Nat → Value → Prop} {E : Option Env} {c : AV} {u : Value} (h : VR Rd E c u) {e e' : Env} (hE : E = some e) (p : Nat → Bool) (hm : c.nom p = true)
    (hb : ∀ j, p j = false → e'.blk j = e.blk j) (hs : ∀ j, p j = false → e'.sv j = e.sv j) : VR Rd (some e') c u := by
  induction h with
  | un => exact .un
  | v => exact .v
  | sl us hw h1c hl hc h1 h2 h3 ha ih => exact .sl us hw h1c hl hc h1 h2 h3 ha
  | @ow e0 j =>
    cases hE
    rw [← hs j (by simpa [AV.nom] using hm)]; exact .ow
  | @pt e0 j o b h =>
    cases hE
    exact .pt (by rw [hb j (by simpa [AV.nom] using hm)]; exact h)
  | @pe e0 j i sz o b h =>
    cases hE
    exact .pe (by rw [hb j (by simpa [AV.nom] using hm)]; exact h)
  | @sw e0 j l n sz b o cap h ho h1 h2 =>
    cases hE
    exact .sw (by rw [hb j (by simpa [AV.nom] using hm)]; exact h) ho h1 h2
  | fp us hl hc ha ih => exact .fp us hl hc ha
  | @ag E0 cs us hl hc ih => exact .ag us hl fun j c u h1 h2 => ih j c u h1 h2 hE (nomL_get (by simpa [AV.nom] using hm) j c h1)
  | @tu E0 cs us hl hc ih => exact .tu us hl fun j c u h1 h2 => ih j c u h1 h2 hE (nomL_get (by simpa [AV.nom] using hm) j c h1)
  | @mp e0 j b h =>
    cases hE
    exact .mp (by rw [hb j (by simpa [AV.nom] using hm)]; exact h)
  | @cl E0 fn fs cs us xs hl hl2 hc hc2 ih ih2 =>
    simp only [AV.nom, Bool.and_eq_true] at hm
    exact .cl us xs hl hl2 (fun j c u h1 h2 => ih j c u h1 h2 hE (nomL_get hm.1 j c h1)) (fun j c u h1 h2 => ih2 j c u h1 h2 hE (nomL_get hm.2 j c h1))

/-! ### forgetting all names of p -/
def AV.kilp (p : Nat → Bool) (c : AV) : AV := if c.nom p then c else .un
def Ob.kilp (p : Nat → Bool) : Ob → Ob
  | .box t cs => .box t (cs.map (AV.kilp p))
  | .arr t sz rows wr => .arr t sz rows wr
  | .mp d es => .mp d es
  | .nr t cs => .nr t (cs.map (AV.kilp p))
def hkilp (p : Nat → Bool) : Hp → Hp
  | [] => []
  | (j, o) :: h => (j, if p j then none else o.map (Ob.kilp p)) :: hkilp p h
def tkilp (p : Nat → Bool) : List (Nat × AV) → List (Nat × AV)
  | [] => []
  | (j, c) :: t => (j, c.kilp p) :: tkilp p t
theorem kilp_nom (p : Nat → Bool) (c : AV) : (c.kilp p).nom p = true := by
  unfold AV.kilp; split
  · assumption
  · rfl
theorem VR.kilp {Rd : Nat → Nat → Value → Prop} {E : Option Env} {c : AV} {u : Value} (h : VR Rd E c u) (p : Nat → Bool) : VR Rd E (c.kilp p) u := by
  unfold AV.kilp; split
  · exact h
  · exact .un
theorem tget_kilp (p : Nat → Bool) : ∀ (t : List (Nat × AV)) (j : Nat), tget (tkilp p t) j = (tget t j).kilp p
  | [], _ => by simp [tkilp, tget, AV.kilp, AV.nom]
  | (i, c) :: t, j => by
    simp only [tkilp, tget]
    split
    · rfl
    · exact tget_kilp p t j
theorem hget_kilp (p : Nat → Bool) : ∀ (h : Hp) (j : Nat), hget (hkilp p h) j = if p j then none else (hget h j).map (Ob.kilp p)
  | [], j => by simp [hkilp, hget]
  | (i, o) :: h, j => by
    simp only [hkilp, hget]
    by_cases hj : j = i
    · subst hj; simp
    · simp only [hj, if_false]; exact hget_kilp p h j

/-! ### a heap with its names turned -/
def Ob.ren (π : Nat → Nat) : Ob → Ob
  | .box t cs => .box t (AV.renL π cs)
  | .arr t sz rows wr => .arr t sz rows wr
  | .mp d es => .mp d es
  | .nr t cs => .nr t (AV.renL π cs)
def hren (π : Nat → Nat) : Hp → Hp
  | [] => []
  | (j, o) :: h => (π j, o.map (Ob.ren π)) :: hren π h
def tren (π : Nat → Nat) : List (Nat × AV) → List (Nat × AV)
  | [] => []
  | (j, c) :: t => (j, c.ren π) :: tren π t
theorem tget_ren (π : Nat → Nat) : ∀ (t : List (Nat × AV)) (j : Nat), tget (tren π t) j = (tget t j).ren π
  | [], _ => by simp [tren, tget, AV.ren]
  | (i, c) :: t, j => by
    simp only [tren, tget]
    split
    · rfl
    · exact tget_ren π t j
theorem hget_ren (π : Nat → Nat) (hi : ∀ i j, π i = π j → i = j) : ∀ (h : Hp) (j : Nat), hget (hren π h) (π j) = (hget h j).map (Ob.ren π)
  | [], j => by simp [hren, hget]
  | (i, o) :: h, j => by
    simp only [hren, hget]
    by_cases hj : j = i
    · subst hj; simp
    · have : ¬ π j = π i := fun hh => hj (hi _ _ hh)
      simp only [hj, this, if_false]; exact hget_ren π hi h j
theorem hget_ren_none (π : Nat → Nat) : ∀ (h : Hp) (k : Nat), (∀ j, π j ≠ k) → hget (hren π h) k = none
  | [], k, _ => by simp [hren, hget]
  | (i, o) :: h, k, hk => by
    have : ¬ k = π i := fun hh => hk i hh.symm
    simp only [hren, hget, this, if_false]; exact hget_ren_none π h k hk
theorem hget_append (h h' : Hp) (k : Nat) : hget (h ++ h') k = if h.any (fun p => p.1 == k) then hget h k else hget h' k := by
  induction h with
  | nil => simp
  | cons p h ih =>
    obtain ⟨i, o⟩ := p
    simp only [List.cons_append, hget, List.any_cons]
    by_cases hk : k = i
    · subst hk; simp
    · have : (i == k) = false := by simp; exact fun h => hk h.symm
      simp only [hk, if_false, this, Bool.false_or]
      exact ih
theorem hget_none_of_any : ∀ (h : Hp) (k : Nat), h.any (fun p => p.1 == k) = false → hget h k = none
  | [], _, _ => rfl
  | (i, o) :: h, k, hk => by
    simp only [List.any_cons, Bool.or_eq_false_iff] at hk
    have : ¬ k = i := by have := hk.1; simp at this; exact fun h => this h.symm
    simp only [hget, this, if_false]
    exact hget_none_of_any h k hk.2

theorem OR.ren {Rd : Nat → Nat → Value → Prop} {e e' : Env} {w : World} {k : Nat} {ob : Ob} (h : OR Rd e w k ob) (π : Nat → Nat) (hb : ∀ j, e'.blk (π j) = e.blk j) (hs : ∀ j, e'.sv (π j) = e.sv j) (hl : ∀ j, e'.lent (π j) = e.lent j) :
    OR Rd e' w (π k) (ob.ren π) := by
  cases ob with
  | box t cs =>
    obtain ⟨h0, b, us, h1, h2, h3⟩ := h
    have hag := (VR.ag us h3.1 h3.2 : VR Rd (some e) (.ag cs) _).ren rfl π hb hs
    obtain ⟨us', hu, hlr⟩ := VR.ag_inv (by simpa only [AV.ren] using hag)
    have : us' = us := by
      have := congrArg (fun v => match v with | .agg a => a.toList | _ => []) hu
      simpa using this.symm
    subst this
    exact ⟨by rw [hl]; exact h0, b, us', by rw [hb]; exact h1, h2, hlr⟩
  | arr t sz rows wr =>
    obtain ⟨h0, h1, h2, h3⟩ := h
    refine ⟨h0, h1, fun hw => by rw [hl]; exact h2 hw, ?_⟩
    rcases h3 with ⟨a1, a2, a3⟩ | ⟨b, cap, cur, a1, a2, a3, a4, a5, a6, a7, a8⟩
    · exact .inl ⟨a1, by rw [hb]; exact a2, by rw [hs]; exact a3⟩
    · exact .inr ⟨b, cap, cur, by rw [hb]; exact a1, by rw [hs]; exact a2, a3, a4, a5, a6, a7, by rw [hl]; exact a8⟩
  | mp d es =>
    obtain ⟨h0, b, arr, clock, h1, h2, h3⟩ := h
    exact ⟨by rw [hl]; exact h0, b, arr, clock, by rw [hb]; exact h1, h2, h3⟩
  | nr t cs =>
    obtain ⟨h0, h3⟩ := h
    refine ⟨by rw [hl]; exact h0, ?_⟩
    have hln : (AV.renL π cs).length = cs.length := by rw [renL_map, List.length_map]
    rcases h3 with ⟨a1, a2, a3⟩ | ⟨b, cap, cur, a1, a2, a3, a4, a5, a6, a7⟩
    · exact .inl ⟨by rw [a1]; rfl, by rw [hb]; exact a2, by rw [hs]; exact a3⟩
    · have hag := (VR.ag _ a7.1 a7.2 : VR Rd (some e) (.ag cs) _).ren rfl π hb hs
      obtain ⟨us', hu, hlr⟩ := VR.ag_inv (by simpa only [AV.ren] using hag)
      have : us' = cur.toList.take cs.length := by
        have := congrArg (fun v => match v with | .agg a => a.toList | _ => []) hu
        simpa using this.symm
      subst this
      exact .inr ⟨b, cap, cur, by rw [hb]; exact a1, by rw [hs, hln]; exact a2, by rw [hln]; exact a3, a4, a5, a6, by rw [hln]; exact hlr⟩
theorem OR.envp {Rd : Nat → Nat → Value → Prop} {e e' : Env} {w : World} {k : Nat} {ob : Ob} (p : Nat → Bool) (h : OR Rd e w k ob) (hk : p k = false) (hb : ∀ j, p j = false → e'.blk j = e.blk j) (hs : ∀ j, p j = false → e'.sv j = e.sv j) (hl : e'.lent k = e.lent k) :
    OR Rd e' w k (ob.kilp p) := by
  cases ob with
  | box t cs =>
    obtain ⟨h0, b, us, h1, h2, h3⟩ := h
    refine ⟨by rw [hl]; exact h0, b, us, by rw [hb k hk]; exact h1, h2, by simpa using h3.1, fun j c u hc hu => ?_⟩
    rw [List.getElem?_map] at hc
    obtain ⟨c0, hc0, rfl⟩ := Option.map_eq_some_iff.1 hc
    exact ((h3.2 j c0 u hc0 hu).kilp p).envp rfl p (kilp_nom p c0) hb hs
  | arr t sz rows wr =>
    obtain ⟨h0, h1, h2, h3⟩ := h
    refine ⟨h0, h1, fun hw => by rw [hl]; exact h2 hw, ?_⟩
    rcases h3 with ⟨a1, a2, a3⟩ | ⟨b, cap, cur, a1, a2, a3, a4, a5, a6, a7, a8⟩
    · exact .inl ⟨a1, by rw [hb k hk]; exact a2, by rw [hs k hk]; exact a3⟩
    · exact .inr ⟨b, cap, cur, by rw [hb k hk]; exact a1, by rw [hs k hk]; exact a2, a3, a4, a5, a6, a7, by rw [hl]; exact a8⟩
  | mp d es =>
    obtain ⟨h0, b, arr, clock, h1, h2, h3⟩ := h
    exact ⟨by rw [hl]; exact h0, b, arr, clock, by rw [hb k hk]; exact h1, h2, h3⟩
  | nr t cs =>
    obtain ⟨h0, h3⟩ := h
    refine ⟨by rw [hl]; exact h0, ?_⟩
    rcases h3 with ⟨a1, a2, a3⟩ | ⟨b, cap, cur, a1, a2, a3, a4, a5, a6, a7⟩
    · exact .inl ⟨by rw [a1]; rfl, by rw [hb k hk]; exact a2, by rw [hs k hk]; exact a3⟩
    · refine .inr ⟨b, cap, cur, by rw [hb k hk]; exact a1, by rw [hs k hk, List.length_map]; exact a2, by rw [List.length_map]; exact a3, a4, a5, a6, ?_⟩
      rw [List.length_map]
      refine ⟨by simpa using a7.1, fun j c u hc hu => ?_⟩
      rw [List.getElem?_map] at hc
      obtain ⟨c0, hc0, rfl⟩ := Option.map_eq_some_iff.1 hc
      exact ((a7.2 j c0 u hc0 hu).kilp p).envp rfl p (kilp_nom p c0) hb hs

/-- the names of one call's making, in the caller's hands: from B on -/
def inB (B k : Nat) : Bool := Nat.ble B k && Nat.blt k (B + 1000)
theorem VR.renp {Rd : Nat → Nat → Value → Prop} {e e' : Env} {c : AV} {u : Value} (h : VR Rd (some e) c u) (p : Nat → Bool) (hm : c.nom p = true) (π : Nat → Nat) (hb : ∀ j, p j = false → e'.blk (π j) = e.blk j) (hs : ∀ j, p j = false → e'.sv (π j) = e.sv j) :
    VR Rd (some e') (c.ren π) u := by
  have h1 := h.envp (e' := ⟨fun k => e'.blk (π k), fun k => e'.sv (π k), e.lent⟩) rfl p hm (fun j hj => hb j hj) (fun j hj => hs j hj)
  exact h1.ren rfl π (fun _ => rfl) (fun _ => rfl)
theorem kilp_of_nom {p : Nat → Bool} {c : AV} (h : c.nom p = true) : c.kilp p = c := by simp [AV.kilp, h]

/-- names turned back -/
theorem VR.unren {Rd : Nat → Nat → Value → Prop} {e e' : Env} (π : Nat → Nat) (hb : ∀ j, e'.blk j = e.blk (π j)) (hs : ∀ j, e'.sv j = e.sv (π j)) {E : Option Env} {c' : AV} {u : Value} (h : VR Rd E c' u) (hE : E = some e) : ∀ {c : AV}, c' = c.ren π → VR Rd (some e') c u := by
  have keyL : ∀ (cs0 cs : List AV) (us : List Value), cs0 = AV.renL π cs → us.length = cs0.length → (∀ (j : Nat) c u, cs0[j]? = some c → us[j]? = some u → ∀ {c0 : AV}, c = c0.ren π → VR Rd (some e') c0 u) → us.length = cs.length ∧ ∀ (j : Nat) c u, cs[j]? = some c → us[j]? = some u → VR Rd (some e') c u := by
    intro cs0 cs us he hl hc
    rw [renL_map] at he
    subst he
    exact ⟨by simpa using hl, fun j c u h1 h2 => hc j (c.ren π) u (by simp [h1]) h2 rfl⟩
  induction h with
  | un => intro c hc; cases c <;> simp [AV.ren] at hc; exact .un
  | v => intro c hc; cases c <;> simp [AV.ren] at hc; subst hc; exact .v
  | sl us hw h1c hl hcc h1 h2 h3 ha ih =>
    intro c hc
    cases c <;> simp [AV.ren] at hc
    obtain ⟨rfl, rfl, rfl⟩ := hc
    exact .sl us hw h1c hl hcc h1 h2 h3 ha
  | @ow e0 k =>
    intro c hc
    cases hE
    cases c <;> simp [AV.ren] at hc
    rename_i k'
    subst hc
    rw [← hs k']
    exact .ow
  | pt hbk =>
    intro c hc
    cases hE
    cases c <;> simp [AV.ren] at hc
    obtain ⟨rfl, rfl⟩ := hc
    exact .pt ((hb _).trans hbk)
  | pe hbk =>
    intro c hc
    cases hE
    cases c <;> simp [AV.ren] at hc
    obtain ⟨rfl, rfl, rfl, rfl⟩ := hc
    exact .pe ((hb _).trans hbk)
  | sw hbk ho h1 h2 =>
    intro c hc
    cases hE
    cases c <;> simp [AV.ren] at hc
    obtain ⟨rfl, rfl, rfl, rfl⟩ := hc
    exact .sw ((hb _).trans hbk) ho h1 h2
  | fp us hl hcc ha ih =>
    intro c hc
    cases c <;> simp [AV.ren] at hc
    subst hc
    exact .fp us hl hcc ha
  | ag us hl hcc ih =>
    intro c hc
    cases c <;> simp [AV.ren] at hc
    obtain ⟨k1, k2⟩ := keyL _ _ us hc hl fun j c u h1 h2 => ih j c u h1 h2 hE
    exact .ag us k1 k2
  | tu us hl hcc ih =>
    intro c hc
    cases c <;> simp [AV.ren] at hc
    obtain ⟨k1, k2⟩ := keyL _ _ us hc hl fun j c u h1 h2 => ih j c u h1 h2 hE
    exact .tu us k1 k2
  | mp hbk =>
    intro c hc
    cases hE
    cases c <;> simp [AV.ren] at hc
    subst hc
    exact .mp ((hb _).trans hbk)
  | cl us xs hl hl2 hcc hcc2 ih ih2 =>
    intro c hc
    cases c <;> simp [AV.ren] at hc
    obtain ⟨rfl, h1, h2⟩ := hc
    obtain ⟨k1, k2⟩ := keyL _ _ us h1 hl fun j c u h1 h2 => ih j c u h1 h2 hE
    obtain ⟨k3, k4⟩ := keyL _ _ xs h2 hl2 fun j c u h1 h2 => ih2 j c u h1 h2 hE
    exact .cl us xs k1 k3 k2 k4
theorem OR.unren {Rd : Nat → Nat → Value → Prop} {e e' : Env} {w : World} {k : Nat} {ob : Ob} (π : Nat → Nat) (h : OR Rd e w (π k) (ob.ren π)) (hb : ∀ j, e'.blk j = e.blk (π j)) (hs : ∀ j, e'.sv j = e.sv (π j)) (hl : e'.lent k = e.lent (π k)) : OR Rd e' w k ob := by
  cases ob with
  | box t cs =>
    obtain ⟨h0, b, us, h1, h2, h3⟩ := h
    refine ⟨by rw [hl]; exact h0, b, us, by rw [hb]; exact h1, h2, ?_⟩
    have := (VR.ag us h3.1 h3.2 : VR Rd (some e) (.ag _) _).unren π hb hs rfl (c := .ag cs) (by simp [AV.ren])
    obtain ⟨us', hu, hlr⟩ := VR.ag_inv this
    have : us' = us := by
      have := congrArg (fun v => match v with | .agg a => a.toList | _ => []) hu
      simpa using this.symm
    subst this
    exact hlr
  | arr t sz rows wr =>
    obtain ⟨h0, h1, h2, h3⟩ := h
    refine ⟨h0, h1, fun hw => by rw [hl]; exact h2 hw, ?_⟩
    rcases h3 with ⟨a1, a2, a3⟩ | ⟨b, cap, cur, a1, a2, a3, a4, a5, a6, a7, a8⟩
    · exact .inl ⟨a1, by rw [hb]; exact a2, by rw [hs]; exact a3⟩
    · exact .inr ⟨b, cap, cur, by rw [hb]; exact a1, by rw [hs]; exact a2, a3, a4, a5, a6, a7, by rw [hl]; exact a8⟩
  | mp d es =>
    obtain ⟨h0, b, arr, clock, h1, h2, h3⟩ := h
    exact ⟨by rw [hl]; exact h0, b, arr, clock, by rw [hb]; exact h1, h2, h3⟩
  | nr t cs =>
    obtain ⟨h0, h3⟩ := h
    refine ⟨by rw [hl]; exact h0, ?_⟩
    have hln : (AV.renL π cs).length = cs.length := by rw [renL_map, List.length_map]
    rcases h3 with ⟨a1, a2, a3⟩ | ⟨b, cap, cur, a1, a2, a3, a4, a5, a6, a7⟩
    · exact .inl ⟨List.eq_nil_of_length_eq_zero (by rw [← hln, a1]; rfl), by rw [hb]; exact a2, by rw [hs]; exact a3⟩
    · rw [hln] at a2 a3 a7
      have := (VR.ag _ a7.1 a7.2 : VR Rd (some e) (.ag _) _).unren π hb hs rfl (c := .ag cs) (by simp [AV.ren])
      obtain ⟨us', hu, hlr⟩ := VR.ag_inv this
      have : us' = cur.toList.take cs.length := by
        have := congrArg (fun v => match v with | .agg a => a.toList | _ => []) hu
        simpa using this.symm
      subst this
      exact .inr ⟨b, cap, cur, by rw [hb]; exact a1, by rw [hs]; exact a2, a3, a4, a5, a6, hlr⟩

/-! ### what is handed to a callee, and what comes back -/
/-- great names, and the caller's names that they stand for -/
def asc : List (Nat × Nat) → Nat → Option Nat
  | [], _ => none
  | (p, c) :: D, k => cond (Nat.beq k p) (some c) (asc D k)
def rac : List (Nat × Nat) → Nat → Option Nat
  | [], _ => none
  | (p, c) :: D, k => cond (Nat.beq k c) (some p) (rac D k)
def piX (D : List (Nat × Nat)) (B k : Nat) : Nat := match asc D k with
  | some c => c
  | none => B + k
def dstN : List Nat → Bool
  | [] => true
  | x :: l => !(l.any (Nat.beq x)) && dstN l
def okD (B : Nat) (D : List (Nat × Nat)) : Bool := D.all (fun q => Nat.ble 4294967296 q.1 && !inB B q.2) && dstN (D.map (·.1)) && dstN (D.map (·.2)) && Nat.ble (B + 1000) 4294967296
/-- a name that a callee's heap may hold -/
def okN (D : List (Nat × Nat)) (k : Nat) : Bool := Nat.blt k 1000 || (asc D k).isSome
def obX (D : List (Nat × Nat)) : Ob → Bool
  | .box _ cs => AV.nomL (fun k => !okN D k) cs
  | .nr _ cs => AV.nomL (fun k => !okN D k) cs
  | _ => true
def smallX (D : List (Nat × Nat)) (H : Hp) : Bool := H.all fun p => okN D p.1 && (match p.2 with | some ob => obX D ob | none => true)
def hdel (D : List (Nat × Nat)) : Hp := D.map fun q => (q.2, none)
theorem nbeq_no {i j : Nat} (h : ¬ i = j) : Nat.beq i j = false := by
  cases hb : Nat.beq i j with
  | false => rfl
  | true => exact absurd (Nat.eq_of_beq_eq_true hb) h
theorem asc_mem : ∀ {D : List (Nat × Nat)} {p c : Nat}, asc D p = some c → (p, c) ∈ D
  | [], p, c, h => by cases h
  | (q, x) :: D, p, c, h => by
    simp only [asc] at h
    by_cases e : p = q
    · subst e; rw [Nat.beq_refl] at h; cases h; simp
    · rw [nbeq_no e] at h; exact List.mem_cons_of_mem _ (asc_mem h)
theorem dstN_mem : ∀ {l : List Nat} {x : Nat}, dstN (x :: l) = true → x ∉ l := fun {l x} h hm => by
  simp only [dstN, Bool.and_eq_true, Bool.not_eq_true', List.any_eq_false] at h
  exact h.1 x hm (Nat.beq_refl x)
theorem rac_of : ∀ {D : List (Nat × Nat)} {p c : Nat}, dstN (D.map (·.2)) = true → (p, c) ∈ D → rac D c = some p
  | [], p, c, _, h => by cases h
  | (q, x) :: D, p, c, hd, h => by
    simp only [rac]
    rcases List.mem_cons.1 h with h | h
    · cases h; rw [Nat.beq_refl]; rfl
    · have hx : x ∉ D.map (·.2) := dstN_mem (by simpa using hd)
      have hne : ¬ c = x := fun e => hx (by rw [← e]; exact List.mem_map.2 ⟨_, h, rfl⟩)
      rw [nbeq_no hne]
      exact rac_of (by simp only [List.map_cons, dstN, Bool.and_eq_true] at hd; exact hd.2) h
theorem asc_of : ∀ {D : List (Nat × Nat)} {p c : Nat}, dstN (D.map (·.1)) = true → (p, c) ∈ D → asc D p = some c
  | [], p, c, _, h => by cases h
  | (q, x) :: D, p, c, hd, h => by
    simp only [asc]
    rcases List.mem_cons.1 h with h | h
    · cases h; rw [Nat.beq_refl]; rfl
    · have hx : q ∉ D.map (·.1) := dstN_mem (by simpa using hd)
      have hne : ¬ p = q := fun e => hx (by rw [← e]; exact List.mem_map.2 ⟨_, h, rfl⟩)
      rw [nbeq_no hne]
      exact asc_of (by simp only [List.map_cons, dstN, Bool.and_eq_true] at hd; exact hd.2) h
theorem rac_mem : ∀ {D : List (Nat × Nat)} {p c : Nat}, rac D c = some p → (p, c) ∈ D
  | [], p, c, h => by cases h
  | (q, x) :: D, p, c, h => by
    simp only [rac] at h
    by_cases e : c = x
    · subst e; rw [Nat.beq_refl] at h; cases h; simp
    · rw [nbeq_no e] at h; exact List.mem_cons_of_mem _ (rac_mem h)
/-- the callee's ground -/
def cB (D : List (Nat × Nat)) (B : Nat) (e : Env) (w : World) : Bs :=
  ⟨w, fun b => ∃ p c, asc D p = some c ∧ e.blk c = some b, fun k => e.blk (piX D B k), fun k => e.sv (piX D B k)⟩
def cRd (D : List (Nat × Nat)) (B : Nat) (w0 : Bs) (Rd0 : Nat → Nat → Value → Prop) (e : Env) (h : Hp) (w : World) (b o : Nat) (u : Value) : Prop := RDx w0 Rd0 e h w b o u ∧ ¬ (cB D B e w).mine b
def Env.pi (D : List (Nat × Nat)) (B : Nat) (e : Env) : Env := ⟨fun k => e.blk (piX D B k), fun k => e.sv (piX D B k), fun k => e.lent (piX D B k)⟩
def Env.joinX (D : List (Nat × Nat)) (B : Nat) (e e2 : Env) : Env :=
  ⟨fun k => if inB B k then e2.blk (k - B) else e.blk k, fun k => if inB B k then e2.sv (k - B) else e.sv k,
   fun k => if inB B k then e2.lent (k - B) else match rac D k with
     | some p => e2.lent p
     | none => e.lent k⟩
/-- what is asked of the objects that are handed over -/
def Handed (D : List (Nat × Nat)) (e : Env) (h : Hp) : Prop := ∀ p c, asc D p = some c → (∃ ob, hget h c = some ob) ∧ e.lent c = 0
section
variable {w0 : Bs} {w w' : World} {Rd0 : Nat → Nat → Value → Prop} {e e2 : Env} {h H H0 : Hp} {D : List (Nat × Nat)} {B : Nat}
theorem RDx.enterX (hp : Handed D e h) {b o : Nat} {u : Value} (hr : RDx w0 Rd0 e h w b o u) (hm : ∀ p ob, hget H0 p = some ob → ∃ c, asc D p = some c ∧ ∃ ob', hget h c = some ob') :
    RDx (cB D B e w) (cRd D B w0 Rd0 e h w) (e.pi D B) H0 w b o u := by
  have hr' := hr
  obtain ⟨h1, h2, h3⟩ := hr'
  refine ⟨h1, fun hn => ⟨hr, hn⟩, fun p ob hpo hb => ?_⟩
  obtain ⟨c, hc, ob', ho'⟩ := hm p ob hpo
  have e1 : piX D B p = c := by simp [piX, hc]
  simp only [Env.pi, e1] at hb ⊢
  exact h3 c ob' ho' hb
theorem SR.globX (hs : SR w0 Rd0 e h w) (hp : Handed D e h) {b o : Nat} {u : Value} (hg : GT b o u) : ¬ (cB D B e w).mine b := by
  have hr := hs.glob hg
  have h2 := (hs.good.1 b o u (hs.good.2 _ _ _ hg)).2
  rintro (hm | ⟨p, c, hc, hb⟩)
  · have := World.block_lt_of_cell? w _ hr.1
    simp only [cB] at hm
    simp only at this
    omega
  · obtain ⟨⟨ob, ho⟩, _⟩ := hp p c hc
    exact h2 (hs.base c ob b ho hb).1
theorem SR.enterX (hs : SR w0 Rd0 e h w) (hp : Handed D e h) (hD : okD B D = true)
    (hm : ∀ p ob, hget H0 p = some ob → ∃ c ob', asc D p = some c ∧ hget h c = some ob' ∧ ∀ Rd, OR Rd e w c ob' → OR Rd e w c (ob.ren (piX D B))) :
    SR (cB D B e w) (cRd D B w0 Rd0 e h w) (e.pi D B) H0 w := by
  have hm' : ∀ p ob, hget H0 p = some ob → ∃ c, asc D p = some c ∧ ∃ ob', hget h c = some ob' := fun p ob hpo => by
    obtain ⟨c, ob', a, b, _⟩ := hm p ob hpo
    exact ⟨c, a, ob', b⟩
  have hpi : ∀ {p c}, asc D p = some c → piX D B p = c := fun {p c} hc => by simp [piX, hc]
  refine ⟨⟨rfl, rfl, rfl, Nat.le_refl _, fun _ _ => rfl⟩, ⟨fun b o u hr => ⟨hr.1.1, hr.2⟩, fun b o u hg => ⟨hs.glob hg, hs.globX hp hg⟩⟩, fun p ob hpo => ?_, fun p ob b hpo hb => ?_, fun p p' ob ob' b hpo hpo' hb hb' => ?_, fun k _ => ⟨rfl, rfl⟩⟩
  · obtain ⟨c, ob', hc, ho', himp⟩ := hm p ob hpo
    have h1 := himp _ (hs.ob c ob' ho')
    have e1 := hpi hc
    rw [← e1] at h1
    exact (OR.unren (piX D B) h1 (e' := e.pi D B) (fun _ => rfl) (fun _ => rfl) rfl).mono fun b o u hr => hr.enterX hp hm'
  · obtain ⟨c, ob', hc, ho', _⟩ := hm p ob hpo
    simp only [Env.pi, hpi hc] at hb
    exact ⟨.inr ⟨p, c, hc, hb⟩, (hs.base c ob' b ho' hb).2⟩
  · obtain ⟨c, ob1, hc, ho1, _⟩ := hm p ob hpo
    obtain ⟨c', ob2, hc', ho2, _⟩ := hm p' ob' hpo'
    simp only [Env.pi, hpi hc] at hb
    simp only [Env.pi, hpi hc'] at hb'
    have := hs.inj _ _ _ _ _ ho1 ho2 hb hb'
    subst this
    simp only [okD, Bool.and_eq_true] at hD
    have r1 := rac_of hD.1.2 (asc_mem hc)
    have r2 := rac_of hD.1.2 (asc_mem hc')
    rw [r1] at r2
    exact Option.some.inj r2
/-- WHAT A CALLEE HAS MADE AND TURNED COMES INTO THE CALLER's HANDS -/
theorem SR.joinX (hs : SR w0 Rd0 e h w) (hp : Handed D e h) (hD : okD B D = true) (hs2 : SR (cB D B e w) (cRd D B w0 Rd0 e h w) e2 H w') (hH : smallX D H = true) :
    SR w0 Rd0 (e.joinX D B e2) (hren (piX D B) H ++ (hdel D ++ hkilp (inB B) h)) w' ∧
    (∀ b o u, RDx w0 Rd0 e h w b o u → RDx w0 Rd0 (e.joinX D B e2) (hren (piX D B) H ++ (hdel D ++ hkilp (inB B) h)) w' b o u) ∧
    (∀ b o u, RDx (cB D B e w) (cRd D B w0 Rd0 e h w) e2 H w' b o u → RDx w0 Rd0 (e.joinX D B e2) (hren (piX D B) H ++ (hdel D ++ hkilp (inB B) h)) w' b o u) ∧
    (∀ k, okN D k = true → (e.joinX D B e2).blk (piX D B k) = e2.blk k ∧ (e.joinX D B e2).sv (piX D B k) = e2.sv k) := by
  have hD' := hD
  simp only [okD, Bool.and_eq_true, List.all_eq_true, Bool.not_eq_true'] at hD'
  obtain ⟨⟨⟨d1, d2⟩, d3⟩, d4⟩ := hD'
  have d4 : B + 1000 ≤ 4294967296 := Nat.le_of_ble_eq_true d4
  have dbig : ∀ p c, asc D p = some c → 4294967296 ≤ p ∧ inB B c = false := fun p c hc => by
    have := d1 _ (asc_mem hc)
    exact ⟨Nat.le_of_ble_eq_true this.1, this.2⟩
  have dinj : ∀ p p' c, asc D p = some c → asc D p' = some c → p = p' := fun p p' c h1 h2 => by
    have r1 := rac_of d3 (asc_mem h1)
    have r2 := rac_of d3 (asc_mem h2)
    rw [r1] at r2
    exact Option.some.inj r2
  have hin : ∀ k, inB B k = true ↔ B ≤ k ∧ k < B + 1000 := fun k => by simp [inB]
  have hpis : ∀ k, k < 1000 → piX D B k = B + k := fun k hk => by
    unfold piX
    cases hc : asc D k with
    | none => rfl
    | some c => have := (dbig k c hc).1; omega
  have hpic : ∀ p c, asc D p = some c → piX D B p = c := fun p c hc => by simp [piX, hc]
  have hinB : ∀ k, k < 1000 → inB B (B + k) = true := fun k hk => (hin (B + k)).2 ⟨by omega, by omega⟩
  -- the joined environment
  have hjb : ∀ k, okN D k = true → (e.joinX D B e2).blk (piX D B k) = e2.blk k := fun k hk => by
    simp only [okN, Bool.or_eq_true] at hk
    rcases hk with hk | hk
    · have hk : k < 1000 := Nat.le_of_ble_eq_true hk
      rw [hpis k hk]; simp [Env.joinX, hinB k hk]
    · obtain ⟨c, hc⟩ := Option.isSome_iff_exists.1 hk
      have := hs2.pin k (dbig k c hc).1
      rw [this.1, hpic k c hc]
      simp [Env.joinX, (dbig k c hc).2, cB, hpic k c hc]
  have hjs : ∀ k, okN D k = true → (e.joinX D B e2).sv (piX D B k) = e2.sv k := fun k hk => by
    simp only [okN, Bool.or_eq_true] at hk
    rcases hk with hk | hk
    · have hk : k < 1000 := Nat.le_of_ble_eq_true hk
      rw [hpis k hk]; simp [Env.joinX, hinB k hk]
    · obtain ⟨c, hc⟩ := Option.isSome_iff_exists.1 hk
      have := hs2.pin k (dbig k c hc).1
      rw [this.2, hpic k c hc]
      simp [Env.joinX, (dbig k c hc).2, cB, hpic k c hc]
  have hjl : ∀ k, okN D k = true → (e.joinX D B e2).lent (piX D B k) = e2.lent k := fun k hk => by
    simp only [okN, Bool.or_eq_true] at hk
    rcases hk with hk | hk
    · have hk : k < 1000 := Nat.le_of_ble_eq_true hk
      rw [hpis k hk]; simp [Env.joinX, hinB k hk]
    · obtain ⟨c, hc⟩ := Option.isSome_iff_exists.1 hk
      rw [hpic k c hc]
      simp [Env.joinX, (dbig k c hc).2, rac_of d3 (asc_mem hc)]
  have hob : ∀ k, inB B k = false → (e.joinX D B e2).blk k = e.blk k := fun k hk => by simp [Env.joinX, hk]
  have hos : ∀ k, inB B k = false → (e.joinX D B e2).sv k = e.sv k := fun k hk => by simp [Env.joinX, hk]
  have hol : ∀ k, inB B k = false → rac D k = none → (e.joinX D B e2).lent k = e.lent k := fun k hk hr => by simp [Env.joinX, hk, hr]
  have pinj : ∀ k k', okN D k = true → okN D k' = true → piX D B k = piX D B k' → k = k' := by
    intro k k' hk hk' he
    simp only [okN, Bool.or_eq_true] at hk hk'
    rcases hk with hk | hk
    · have hk : k < 1000 := Nat.le_of_ble_eq_true hk
      rw [hpis k hk] at he
      rcases hk' with hk' | hk'
      · have hk' : k' < 1000 := Nat.le_of_ble_eq_true hk'
        rw [hpis k' hk'] at he; omega
      · obtain ⟨c, hc⟩ := Option.isSome_iff_exists.1 hk'
        rw [hpic k' c hc] at he
        have := (dbig k' c hc).2
        rw [← he, hinB k hk] at this; cases this
    · obtain ⟨c, hc⟩ := Option.isSome_iff_exists.1 hk
      rw [hpic k c hc] at he
      rcases hk' with hk' | hk'
      · have hk' : k' < 1000 := Nat.le_of_ble_eq_true hk'
        rw [hpis k' hk'] at he
        have := (dbig k c hc).2
        rw [he, hinB k' hk'] at this; cases this
      · obtain ⟨c', hc'⟩ := Option.isSome_iff_exists.1 hk'
        rw [hpic k' c' hc'] at he
        subst he
        exact dinj _ _ _ hc hc'
  -- the names of the callee's heap
  have hkeys : ∀ (H : Hp), smallX D H = true → ∀ k ob, hget H k = some ob → okN D k = true ∧ obX D ob = true := by
    intro H
    induction H with
    | nil => intro _ k ob hh; simp [hget] at hh
    | cons q H ih =>
      intro hH k ob hk
      obtain ⟨i, o⟩ := q
      simp only [smallX, List.all_cons, Bool.and_eq_true] at hH
      by_cases hki : k = i
      · subst hki
        rw [hget_same] at hk
        subst hk
        exact ⟨hH.1.1, hH.1.2⟩
      · rw [hget_other hki] at hk
        exact ih (by simpa [smallX] using hH.2) k ob hk
  have hren_get : ∀ (H : Hp), smallX D H = true → ∀ k, (hren (piX D B) H).any (fun q => q.1 == k) = true → ∃ j, okN D j = true ∧ piX D B j = k ∧ hget (hren (piX D B) H) k = (hget H j).map (Ob.ren (piX D B)) := by
    intro H
    induction H with
    | nil => intro _ k ha; simp [hren] at ha
    | cons q H ih =>
      intro hH k ha
      obtain ⟨i, o⟩ := q
      simp only [smallX, List.all_cons, Bool.and_eq_true] at hH
      simp only [hren, List.any_cons, Bool.or_eq_true, beq_iff_eq] at ha
      by_cases hki : piX D B i = k
      · refine ⟨i, hH.1.1, hki, ?_⟩
        simp only [hren, hget, hki, if_true]
      · obtain ⟨j, j1, j2, j3⟩ := ih (by simpa [smallX] using hH.2) k (ha.resolve_left hki)
        refine ⟨j, j1, j2, ?_⟩
        have hji : ¬ j = i := fun e => hki (by rw [← e]; exact j2)
        have hki' : ¬ k = piX D B i := fun e => hki e.symm
        simp only [hren, hget, hki', if_false, hji, j3]
  have hdel_get : ∀ (D : List (Nat × Nat)) k, hget (hdel D) k = none := by
    intro D k
    induction D with
    | nil => rfl
    | cons q D ih =>
      simp only [hdel, List.map_cons, hget]
      split
      · rfl
      · exact ih
  have hdel_any : ∀ k, (hdel D).any (fun q => q.1 == k) = false → rac D k = none := by
    intro k hk
    cases hr : rac D k with
    | none => rfl
    | some p =>
      have := rac_mem hr
      rw [List.any_eq_false] at hk
      exact absurd (by simp) (hk (k, none) (List.mem_map.2 ⟨_, this, rfl⟩))
  -- whose is it?
  have hwho : ∀ k ob, hget (hren (piX D B) H ++ (hdel D ++ hkilp (inB B) h)) k = some ob → (∃ j ob0, okN D j = true ∧ obX D ob0 = true ∧ k = piX D B j ∧ hget H j = some ob0 ∧ ob = ob0.ren (piX D B)) ∨ (inB B k = false ∧ rac D k = none ∧ ∃ ob0, hget h k = some ob0 ∧ ob = ob0.kilp (inB B)) := by
    intro k ob hk
    rw [hget_append] at hk
    split at hk
    · rename_i ha
      obtain ⟨j, j1, j2, j3⟩ := hren_get H hH k ha
      rw [j3] at hk
      obtain ⟨ob0, h0, rfl⟩ := Option.map_eq_some_iff.1 hk
      exact .inl ⟨j, ob0, j1, (hkeys H hH j ob0 h0).2, j2.symm, h0, rfl⟩
    · rw [hget_append] at hk
      split at hk
      · rw [hdel_get] at hk; cases hk
      · rename_i _ ha
        have ha : (hdel D).any (fun q => q.1 == k) = false := (Bool.not_eq_true _).mp ha
        rw [hget_kilp] at hk
        split at hk
        · cases hk
        · rename_i hf
          obtain ⟨ob0, h0, rfl⟩ := Option.map_eq_some_iff.1 hk
          exact .inr ⟨by simpa using hf, hdel_any k ha, ob0, h0, rfl⟩
  -- what is the callee's own is the caller's own
  have hown : ∀ b, (cB D B e w).mine b → w0.mine b := by
    rintro b (hb | ⟨p, c, hc, hb⟩)
    · exact hs.ext.mine hb
    · obtain ⟨⟨ob, ho⟩, _⟩ := hp p c hc
      exact (hs.base c ob b ho hb).1
  have hrest : ∀ k ob0 b, rac D k = none → hget h k = some ob0 → e.blk k = some b → ¬ (cB D B e w).mine b := by
    rintro k ob0 b hr h0 hb (hm | ⟨p, c, hc, hbc⟩)
    · have := (hs.base k ob0 b h0 hb).2
      simp only [cB] at hm
      omega
    · obtain ⟨⟨ob, ho⟩, _⟩ := hp p c hc
      have := hs.inj _ _ _ _ _ h0 ho hb hbc
      subst this
      rw [rac_of d3 (asc_mem hc)] at hr
      cases hr
  have hfroz : ∀ b o u, RDx w0 Rd0 e h w b o u → ¬ (cB D B e w).mine b := by
    rintro b o u ⟨h1, h2, h3⟩ (hm | ⟨p, c, hc, hbc⟩)
    · have := World.block_lt_of_cell? w _ h1
      simp only [cB] at hm
      simp only at this
      omega
    · obtain ⟨⟨ob, ho⟩, hl⟩ := hp p c hc
      have := h3 c ob ho hbc
      omega
  have hR1 : ∀ b o u, RDx w0 Rd0 e h w b o u → RDx w0 Rd0 (e.joinX D B e2) (hren (piX D B) H ++ (hdel D ++ hkilp (inB B) h)) w' b o u := by
    rintro b o u hr
    have hnm := hfroz b o u hr
    have hr' := hr
    obtain ⟨h1, h2, h3⟩ := hr'
    refine ⟨by rw [World.cell?_of_block (w := w) (hs2.ext.block b hnm)]; exact h1, h2, fun k ob hk hb => ?_⟩
    rcases hwho k ob hk with ⟨j, ob0, hj, _, rfl, h0, rfl⟩ | ⟨hf, hr0, ob0, h0, rfl⟩
    · rw [hjb j hj] at hb
      exact absurd (hs2.base _ _ _ h0 hb).1 hnm
    · rw [hob k hf] at hb
      rw [hol k hf hr0]
      exact h3 k ob0 h0 hb
  have hR2 : ∀ b o u, RDx (cB D B e w) (cRd D B w0 Rd0 e h w) e2 H w' b o u → RDx w0 Rd0 (e.joinX D B e2) (hren (piX D B) H ++ (hdel D ++ hkilp (inB B) h)) w' b o u := by
    rintro b o u ⟨h1, h2, h3⟩
    refine ⟨h1, fun hlt => (h2 fun hm => hlt (hown b hm)).1.2.1 hlt, fun k ob hk hb => ?_⟩
    rcases hwho k ob hk with ⟨j, ob0, hj, _, rfl, h0, rfl⟩ | ⟨hf, hr0, ob0, h0, rfl⟩
    · rw [hjb j hj] at hb
      rw [hjl j hj]
      exact h3 j ob0 h0 hb
    · rw [hob k hf] at hb
      rw [hol k hf hr0]
      exact (h2 (hrest k ob0 b hr0 h0 hb)).1.2.2 k ob0 h0 hb
  refine ⟨⟨?_, hs.good, fun k ob hk => ?_, fun k ob b hk hb => ?_, fun k k' ob ob' b hk hk' hb hb' => ?_, fun k hk => ?_⟩, hR1, hR2, fun k hk => ⟨hjb k hk, hjs k hk⟩⟩
  · exact hs.ext.step hs2.ext.os hs2.ext.tape hs2.ext.output hs2.ext.size fun b hb _ => hs2.ext.block b fun hm => hb (hown b hm)
  · rcases hwho k ob hk with ⟨j, ob0, hj, hx, rfl, h0, rfl⟩ | ⟨hf, hr0, ob0, h0, rfl⟩
    · have ho := (hs2.ob j ob0 h0).mono hR2
      have ho2 : OR (RDx w0 Rd0 (e.joinX D B e2) (hren (piX D B) H ++ (hdel D ++ hkilp (inB B) h)) w') ⟨fun k => (e.joinX D B e2).blk (piX D B k), fun k => (e.joinX D B e2).sv (piX D B k), fun k => (e.joinX D B e2).lent (piX D B k)⟩ w' j ob0 := by
        have := ho.envp (e' := ⟨fun k => (e.joinX D B e2).blk (piX D B k), fun k => (e.joinX D B e2).sv (piX D B k), fun k => (e.joinX D B e2).lent (piX D B k)⟩) (fun k => !okN D k) (by simpa using hj)
          (fun i hi => hjb i (by simpa using hi)) (fun i hi => hjs i (by simpa using hi)) (hjl j hj)
        have he : ob0.kilp (fun k => !okN D k) = ob0 := by
          cases ob0 with
          | box t cs =>
            simp only [Ob.kilp]
            refine congrArg (Ob.box t) ?_
            rw [List.map_congr_left (g := id), List.map_id]
            intro c hc
            obtain ⟨i, hi, rfl⟩ := List.getElem_of_mem hc
            exact kilp_of_nom (nomL_get hx i _ (List.getElem?_eq_getElem hi))
          | arr => rfl
          | mp => rfl
          | nr t cs =>
            simp only [Ob.kilp]
            refine congrArg (Ob.nr t) ?_
            rw [List.map_congr_left (g := id), List.map_id]
            intro c hc
            obtain ⟨i, hi, rfl⟩ := List.getElem_of_mem hc
            exact kilp_of_nom (nomL_get hx i _ (List.getElem?_eq_getElem hi))
        rw [he] at this
        exact this
      exact ho2.ren (piX D B) (fun _ => rfl) (fun _ => rfl) (fun _ => rfl)
    · refine OR.envp (inB B) (e := e) ?_ hf hob hos (hol k hf hr0)
      have x := hs.ob k ob0 h0
      have hx : ∀ {b : Nat} {o : Obj}, e.blk k = some b → w.heap[b]? = some o → w'.heap[b]? = some o := fun {b o} hb ho => (hs2.ext.block b (hrest k ob0 b hr0 h0 hb)).trans ho
      cases ob0 with
      | box t cs =>
        obtain ⟨a0, b, us, a1, a2, a3⟩ := x
        exact ⟨a0, b, us, a1, a2.ext (fun o ho => hx a1 ho), a3.imp fun _ _ hv => hv.mono hR1⟩
      | arr t sz rows wr =>
        obtain ⟨a0, a1, a2, a3⟩ := x
        refine ⟨a0, a1, a2, ?_⟩
        rcases a3 with a3 | ⟨b, cap, cur, b1, b2, b3, b4, b5, b6, b7, b8⟩
        · exact .inl a3
        · exact .inr ⟨b, cap, cur, b1, b2, b3, b4, hx b1 b5, b6, b7.imp fun _ _ hv => hv.mono hR1, b8⟩
      | mp d es =>
        obtain ⟨a0, b, arr, clock, a1, a2, a3⟩ := x
        exact ⟨a0, b, arr, clock, a1, hx a1 a2, a3.mono hR1⟩
      | nr t cs =>
        obtain ⟨a0, a3⟩ := x
        refine ⟨a0, ?_⟩
        rcases a3 with a3 | ⟨b, cap, cur, b1, b2, b3, b4, b5, b6, b7⟩
        · exact .inl a3
        · exact .inr ⟨b, cap, cur, b1, b2, b3, b4, hx b1 b5, b6, b7.imp fun _ _ hv => hv.mono hR1⟩
  · rcases hwho k ob hk with ⟨j, ob0, hj, _, rfl, h0, rfl⟩ | ⟨hf, hr0, ob0, h0, rfl⟩
    · rw [hjb j hj] at hb
      have := hs2.base _ _ _ h0 hb
      exact ⟨hown b this.1, this.2⟩
    · rw [hob k hf] at hb
      have := hs.base _ _ _ h0 hb
      exact ⟨this.1, Nat.lt_of_lt_of_le this.2 hs2.ext.size⟩
  · rcases hwho k ob hk with ⟨j, ob0, hj, _, rfl, h0, rfl⟩ | ⟨hf, hr0, ob0, h0, rfl⟩
    · rw [hjb j hj] at hb
      rcases hwho k' ob' hk' with ⟨j', ob0', hj', _, rfl, h0', rfl⟩ | ⟨hf', hr0', ob0', h0', rfl⟩
      · rw [hjb j' hj'] at hb'
        rw [hs2.inj _ _ _ _ _ h0 h0' hb hb']
      · rw [hob k' hf'] at hb'
        exact absurd (hs2.base _ _ _ h0 hb).1 (hrest k' ob0' b hr0' h0' hb')
    · rw [hob k hf] at hb
      rcases hwho k' ob' hk' with ⟨j', ob0', hj', _, rfl, h0', rfl⟩ | ⟨hf', hr0', ob0', h0', rfl⟩
      · rw [hjb j' hj'] at hb'
        exact absurd (hs2.base _ _ _ h0' hb').1 (hrest k ob0 b hr0 h0 hb)
      · rw [hob k' hf'] at hb'
        exact hs.inj _ _ _ _ _ h0 h0' hb hb'
  · have hf : inB B k = false := by
      cases hi : inB B k with
      | false => rfl
      | true => have := (hin k).1 hi; omega
    rw [hob k hf, hos k hf]
    exact hs.pin k hk
end
end Go.Proofs.Ytggnolfcgaglfaa
