/- Names: forgotten, turned; what a callee has made comes into the caller's hands. -/
import Derived.Test.YtiejnblpmfgpbaaSymG
set_option linter.unusedVariables false
set_option linter.unusedSimpArgs false
namespace Go.Proofs.Ytiejnblpmfgpbaa
open Go Go.RowKit

mutual
/-- the names, turned by π -/
def AV.ren (π : Nat → Nat) : AV → AV
  | .un => .un
  | .v x => .v x
  | .sl tt sz rows => .sl tt sz rows
  | .ow j => .ow (π j)
  | .pt j o => .pt (π j) o
  | .pe j i sz o => .pe (π j) i sz o
  | .fp cs => .fp cs
  | .mp j => .mp (π j)
  | .ag cs => .ag (AV.renL π cs)
  | .tu cs => .tu (AV.renL π cs)
  | .cl fn fs cs => .cl fn (AV.renL π fs) (AV.renL π cs)
def AV.renL (π : Nat → Nat) : List AV → List AV
  | [] => []
  | c :: cs => AV.ren π c :: AV.renL π cs
/-- none of its names is of p -/
def AV.nom (p : Nat → Bool) : AV → Bool
  | .un => true
  | .v _ => true
  | .sl _ _ _ => true
  | .fp _ => true
  | .ow j => !p j
  | .pt j _ => !p j
  | .pe j _ _ _ => !p j
  | .mp j => !p j
  | .ag cs => AV.nomL p cs
  | .tu cs => AV.nomL p cs
  | .cl _ fs cs => AV.nomL p fs && AV.nomL p cs
def AV.nomL (p : Nat → Bool) : List AV → Bool
  | [] => true
  | c :: cs => AV.nom p c && AV.nomL p cs
end
theorem renL_map (π : Nat → Nat) : ∀ cs : List AV, AV.renL π cs = cs.map (AV.ren π)
  | [] => rfl
  | c :: cs => by rw [AV.renL, renL_map π cs]; rfl
theorem nomL_get {p : Nat → Bool} : ∀ {cs : List AV}, AV.nomL p cs = true → ∀ (j : Nat) c, cs[j]? = some c → c.nom p = true
  | [], _, j, c, h => by simp at h
  | x :: cs, hm, j, c, h => by
    simp only [AV.nomL, Bool.and_eq_true] at hm
    cases j with
    | zero => simp at h; exact h ▸ hm.1
    | succ j => exact nomL_get hm.2 j c (by simpa using h)
theorem nomL_all {p : Nat → Bool} : ∀ {cs : List AV}, (∀ c ∈ cs, c.nom p = true) → AV.nomL p cs = true
  | [], _ => rfl
  | x :: cs, hm => by simp [AV.nomL, hm x (by simp), nomL_all (cs := cs) fun c hc => hm c (by simp [hc])]

theorem VR.ren {Rd : Nat → Nat → Value → Prop} {E : Option Env} {c : AV} {u : Value} (h : VR Rd E c u) {e e' : Env} (hE : E = some e) (π : Nat → Nat) (hb : ∀ j, e'.blk (π j) = e.blk j) (hs : ∀ j, e'.sv (π j) = e.sv j) :
    VR Rd (some e') (c.ren π) u := by
  have keyL : ∀ (cs : List AV) (us : List Value), us.length = cs.length → (∀ (j : Nat) c u, cs[j]? = some c → us[j]? = some u → VR Rd (some e') (c.ren π) u) → us.length = (AV.renL π cs).length ∧ ∀ (j : Nat) c u, (AV.renL π cs)[j]? = some c → us[j]? = some u → VR Rd (some e') c u := by
    intro cs us hl hc
    rw [renL_map]
    refine ⟨by simpa using hl, fun j c u h1 h2 => ?_⟩
    rw [List.getElem?_map] at h1
    obtain ⟨c0, hc0, rfl⟩ := Option.map_eq_some_iff.1 h1
    exact hc j c0 u hc0 h2
  induction h with
  | un => exact .un
  | v => exact .v
  | sl us hw h1c hl hc h1 h2 h3 ha ih => exact .sl us hw h1c hl hc h1 h2 h3 ha
  | @ow e0 j => cases hE; rw [← hs j]; exact .ow
  | @pt e0 j o b h => cases hE; exact .pt (by rw [hb j]; exact h)
  | @pe e0 j i sz o b h => cases hE; exact .pe (by rw [hb j]; exact h)
  | fp us hl hc ha ih => exact .fp us hl hc ha
  | @ag E0 cs us hl hc ih =>
    have := keyL cs us hl fun j c u h1 h2 => ih j c u h1 h2 hE
    exact .ag us this.1 this.2
  | @tu E0 cs us hl hc ih =>
    have := keyL cs us hl fun j c u h1 h2 => ih j c u h1 h2 hE
    exact .tu us this.1 this.2
  | @mp e0 j b h => cases hE; exact .mp (by rw [hb j]; exact h)
  | @cl E0 fn fs cs us xs hl hl2 hc hc2 ih ih2 =>
    have h1 := keyL fs us hl fun j c u h1 h2 => ih j c u h1 h2 hE
    have h2 := keyL cs xs hl2 fun j c u h1 h2 => ih2 j c u h1 h2 hE
    exact .cl us xs h1.1 h2.1 h1.2 h2.2

/-- the environment turned at names of p alone -/
theorem VR.envp {Rd : Nat → Nat → Value → Prop} {E : Option Env} {c : AV} {u : Value} (h : VR Rd E c u) {e e' : Env} (hE : E = some e) (p : Nat → Bool) (hm : c.nom p = true)
    (hb : ∀ j, p j = false → e'.blk j = e.blk j) (hs : ∀ j, p j = false → e'.sv j = e.sv j) : VR Rd (some e') c u := by
  induction h with
  | un => exact .un
  | v => exact .v
  | sl us hw h1c hl hc h1 h2 h3 ha ih => exact .sl us hw h1c hl hc h1 h2 h3 ha
  | @ow e0 j =>
    cases hE
    rw [← hs j (by simpa [AV.nom] using hm)]; exact .ow
  | @pt e0 j o b h =>
    cases hE
    exact .pt (by rw [hb j (by simpa [AV.nom] using hm)]; exact h)
  | @pe e0 j i sz o b h =>
    cases hE
    exact .pe (by rw [hb j (by simpa [AV.nom] using hm)]; exact h)
  | fp us hl hc ha ih => exact .fp us hl hc ha
  | @ag E0 cs us hl hc ih => exact .ag us hl fun j c u h1 h2 => ih j c u h1 h2 hE (nomL_get (by simpa [AV.nom] using hm) j c h1)
  | @tu E0 cs us hl hc ih => exact .tu us hl fun j c u h1 h2 => ih j c u h1 h2 hE (nomL_get (by simpa [AV.nom] using hm) j c h1)
  | @mp e0 j b h =>
    cases hE
    exact .mp (by rw [hb j (by simpa [AV.nom] using hm)]; exact h)
  | @cl E0 fn fs cs us xs hl hl2 hc hc2 ih ih2 =>
    simp only [AV.nom, Bool.and_eq_true] at hm
    exact .cl us xs hl hl2 (fun j c u h1 h2 => ih j c u h1 h2 hE (nomL_get hm.1 j c h1)) (fun j c u h1 h2 => ih2 j c u h1 h2 hE (nomL_get hm.2 j c h1))

/-! ### forgetting all names of p -/
def AV.kilp (p : Nat → Bool) (c : AV) : AV := if c.nom p then c else .un
def Ob.kilp (p : Nat → Bool) : Ob → Ob
  | .box t cs => .box t (cs.map (AV.kilp p))
  | .arr t sz rows wr => .arr t sz rows wr
  | .mp d es => .mp d es
def hkilp (p : Nat → Bool) : Hp → Hp
  | [] => []
  | (j, o) :: h => (j, if p j then none else o.map (Ob.kilp p)) :: hkilp p h
def tkilp (p : Nat → Bool) : List (Nat × AV) → List (Nat × AV)
  | [] => []
  | (j, c) :: t => (j, c.kilp p) :: tkilp p t
theorem kilp_nom (p : Nat → Bool) (c : AV) : (c.kilp p).nom p = true := by
  unfold AV.kilp; split
  · assumption
  · rfl
theorem VR.kilp {Rd : Nat → Nat → Value → Prop} {E : Option Env} {c : AV} {u : Value} (h : VR Rd E c u) (p : Nat → Bool) : VR Rd E (c.kilp p) u := by
  unfold AV.kilp; split
  · exact h
  · exact .un
theorem tget_kilp (p : Nat → Bool) : ∀ (t : List (Nat × AV)) (j : Nat), tget (tkilp p t) j = (tget t j).kilp p
  | [], _ => by simp [tkilp, tget, AV.kilp, AV.nom]
  | (i, c) :: t, j => by
    simp only [tkilp, tget]
    split
    · rfl
    · exact tget_kilp p t j
theorem hget_kilp (p : Nat → Bool) : ∀ (h : Hp) (j : Nat), hget (hkilp p h) j = if p j then none else (hget h j).map (Ob.kilp p)
  | [], j => by simp [hkilp, hget]
  | (i, o) :: h, j => by
    simp only [hkilp, hget]
    by_cases hj : j = i
    · subst hj; simp
    · simp only [hj, if_false]; exact hget_kilp p h j

/-! ### a heap with its names turned -/
def Ob.ren (π : Nat → Nat) : Ob → Ob
  | .box t cs => .box t (AV.renL π cs)
  | .arr t sz rows wr => .arr t sz rows wr
  | .mp d es => .mp d es
def hren (π : Nat → Nat) : Hp → Hp
  | [] => []
  | (j, o) :: h => (π j, o.map (Ob.ren π)) :: hren π h
def tren (π : Nat → Nat) : List (Nat × AV) → List (Nat × AV)
  | [] => []
  | (j, c) :: t => (j, c.ren π) :: tren π t
theorem tget_ren (π : Nat → Nat) : ∀ (t : List (Nat × AV)) (j : Nat), tget (tren π t) j = (tget t j).ren π
  | [], _ => by simp [tren, tget, AV.ren]
  | (i, c) :: t, j => by
    simp only [tren, tget]
    split
    · rfl
    · exact tget_ren π t j
theorem hget_ren (π : Nat → Nat) (hi : ∀ i j, π i = π j → i = j) : ∀ (h : Hp) (j : Nat), hget (hren π h) (π j) = (hget h j).map (Ob.ren π)
  | [], j => by simp [hren, hget]
  | (i, o) :: h, j => by
    simp only [hren, hget]
    by_cases hj : j = i
    · subst hj; simp
    · have : ¬ π j = π i := fun hh => hj (hi _ _ hh)
      simp only [hj, this, if_false]; exact hget_ren π hi h j
theorem hget_ren_none (π : Nat → Nat) : ∀ (h : Hp) (k : Nat), (∀ j, π j ≠ k) → hget (hren π h) k = none
  | [], k, _ => by simp [hren, hget]
  | (i, o) :: h, k, hk => by
    have : ¬ k = π i := fun hh => hk i hh.symm
    simp only [hren, hget, this, if_false]; exact hget_ren_none π h k hk
theorem hget_append (h h' : Hp) (k : Nat) : hget (h ++ h') k = if h.any (fun p => p.1 == k) then hget h k else hget h' k := by
  induction h with
  | nil => simp
  | cons p h ih =>
    obtain ⟨i, o⟩ := p
    simp only [List.cons_append, hget, List.any_cons]
    by_cases hk : k = i
    · subst hk; simp
    · have : (i == k) = false := by simp; exact fun h => hk h.symm
      simp only [hk, if_false, this, Bool.false_or]
      exact ih
theorem hget_none_of_any : ∀ (h : Hp) (k : Nat), h.any (fun p => p.1 == k) = false → hget h k = none
  | [], _, _ => rfl
  | (i, o) :: h, k, hk => by
    simp only [List.any_cons, Bool.or_eq_false_iff] at hk
    have : ¬ k = i := by have := hk.1; simp at this; exact fun h => this h.symm
    simp only [hget, this, if_false]
    exact hget_none_of_any h k hk.2

theorem OR.ren {Rd : Nat → Nat → Value → Prop} {e e' : Env} {w : World} {k : Nat} {ob : Ob} (h : OR Rd e w k ob) (π : Nat → Nat) (hb : ∀ j, e'.blk (π j) = e.blk j) (hs : ∀ j, e'.sv (π j) = e.sv j) (hl : ∀ j, e'.lent (π j) = e.lent j) :
    OR Rd e' w (π k) (ob.ren π) := by
  cases ob with
  | box t cs =>
    obtain ⟨h0, b, us, h1, h2, h3⟩ := h
    have hag := (VR.ag us h3.1 h3.2 : VR Rd (some e) (.ag cs) _).ren rfl π hb hs
    obtain ⟨us', hu, hlr⟩ := VR.ag_inv (by simpa only [AV.ren] using hag)
    have : us' = us := by
      have := congrArg (fun v => match v with | .agg a => a.toList | _ => []) hu
      simpa using this.symm
    subst this
    exact ⟨by rw [hl]; exact h0, b, us', by rw [hb]; exact h1, h2, hlr⟩
  | arr t sz rows wr =>
    obtain ⟨h0, h1, h2, h3⟩ := h
    refine ⟨h0, h1, fun hw => by rw [hl]; exact h2 hw, ?_⟩
    rcases h3 with ⟨a1, a2, a3⟩ | ⟨b, cap, cur, a1, a2, a3, a4, a5, a6, a7, a8⟩
    · exact .inl ⟨a1, by rw [hb]; exact a2, by rw [hs]; exact a3⟩
    · exact .inr ⟨b, cap, cur, by rw [hb]; exact a1, by rw [hs]; exact a2, a3, a4, a5, a6, a7, by rw [hl]; exact a8⟩
  | mp d es =>
    obtain ⟨h0, b, arr, clock, h1, h2, h3⟩ := h
    exact ⟨by rw [hl]; exact h0, b, arr, clock, by rw [hb]; exact h1, h2, h3⟩
theorem OR.envp {Rd : Nat → Nat → Value → Prop} {e e' : Env} {w : World} {k : Nat} {ob : Ob} (p : Nat → Bool) (h : OR Rd e w k ob) (hk : p k = false) (hb : ∀ j, p j = false → e'.blk j = e.blk j) (hs : ∀ j, p j = false → e'.sv j = e.sv j) (hl : ∀ j, p j = false → e'.lent j = e.lent j) :
    OR Rd e' w k (ob.kilp p) := by
  cases ob with
  | box t cs =>
    obtain ⟨h0, b, us, h1, h2, h3⟩ := h
    refine ⟨by rw [hl k hk]; exact h0, b, us, by rw [hb k hk]; exact h1, h2, by simpa using h3.1, fun j c u hc hu => ?_⟩
    rw [List.getElem?_map] at hc
    obtain ⟨c0, hc0, rfl⟩ := Option.map_eq_some_iff.1 hc
    exact ((h3.2 j c0 u hc0 hu).kilp p).envp rfl p (kilp_nom p c0) hb hs
  | arr t sz rows wr =>
    obtain ⟨h0, h1, h2, h3⟩ := h
    refine ⟨h0, h1, fun hw => by rw [hl k hk]; exact h2 hw, ?_⟩
    rcases h3 with ⟨a1, a2, a3⟩ | ⟨b, cap, cur, a1, a2, a3, a4, a5, a6, a7, a8⟩
    · exact .inl ⟨a1, by rw [hb k hk]; exact a2, by rw [hs k hk]; exact a3⟩
    · exact .inr ⟨b, cap, cur, by rw [hb k hk]; exact a1, by rw [hs k hk]; exact a2, a3, a4, a5, a6, a7, by rw [hl k hk]; exact a8⟩
  | mp d es =>
    obtain ⟨h0, b, arr, clock, h1, h2, h3⟩ := h
    exact ⟨by rw [hl k hk]; exact h0, b, arr, clock, by rw [hb k hk]; exact h1, h2, h3⟩

/-- the names of one call's making, in the caller's hands: from B on -/
def inB (B k : Nat) : Bool := Nat.ble B k && Nat.blt k (B + 1000)
def shB (B k : Nat) : Nat := if k < 1000 then B + k else B + 1000 + k
def Env.join (B : Nat) (e e2 : Env) : Env :=
  ⟨fun k => if inB B k then e2.blk (k - B) else e.blk k, fun k => if inB B k then e2.sv (k - B) else e.sv k, fun k => if inB B k then e2.lent (k - B) else e.lent k⟩
/-- the heap of a callee holds small names alone -/
def obSmall : Ob → Bool
  | .box _ cs => AV.nomL (fun k => !Nat.blt k 1000) cs
  | _ => true
def smallH (H : Hp) : Bool := H.all fun p => Nat.blt p.1 1000 && (match p.2 with | some ob => obSmall ob | none => true)

theorem VR.renp {Rd : Nat → Nat → Value → Prop} {e e' : Env} {c : AV} {u : Value} (h : VR Rd (some e) c u) (p : Nat → Bool) (hm : c.nom p = true) (π : Nat → Nat) (hb : ∀ j, p j = false → e'.blk (π j) = e.blk j) (hs : ∀ j, p j = false → e'.sv (π j) = e.sv j) :
    VR Rd (some e') (c.ren π) u := by
  have h1 := h.envp (e' := ⟨fun k => e'.blk (π k), fun k => e'.sv (π k), e.lent⟩) rfl p hm (fun j hj => hb j hj) (fun j hj => hs j hj)
  exact h1.ren rfl π (fun _ => rfl) (fun _ => rfl)
theorem kilp_of_nom {p : Nat → Bool} {c : AV} (h : c.nom p = true) : c.kilp p = c := by simp [AV.kilp, h]

/-- WHAT A CALLEE HAS MADE COMES INTO THE CALLER's HANDS -/
theorem SR.join {w0 w w' : World} {Rd0 : Nat → Nat → Value → Prop} {e e2 : Env} {h H : Hp} (B : Nat) (hs : SR w0 Rd0 e h w) (hs2 : SR w (RDx w0 Rd0 e h w) e2 H w') (hH : smallH H = true) :
    SR w0 Rd0 (e.join B e2) (hren (B + ·) H ++ hkilp (inB B) h) w' ∧
    (∀ b o u, RDx w0 Rd0 e h w b o u → RDx w0 Rd0 (e.join B e2) (hren (B + ·) H ++ hkilp (inB B) h) w' b o u) ∧
    (∀ b o u, RDx w (RDx w0 Rd0 e h w) e2 H w' b o u → RDx w0 Rd0 (e.join B e2) (hren (B + ·) H ++ hkilp (inB B) h) w' b o u) := by
  have hin : ∀ k, inB B k = true ↔ B ≤ k ∧ k < B + 1000 := fun k => by simp [inB]
  have hjb : ∀ k, k < 1000 → (e.join B e2).blk (B + k) = e2.blk k := fun k hk => by simp [Env.join, (hin (B + k)).2 ⟨by omega, by omega⟩]
  have hjs : ∀ k, k < 1000 → (e.join B e2).sv (B + k) = e2.sv k := fun k hk => by simp [Env.join, (hin (B + k)).2 ⟨by omega, by omega⟩]
  have hjl : ∀ k, k < 1000 → (e.join B e2).lent (B + k) = e2.lent k := fun k hk => by simp [Env.join, (hin (B + k)).2 ⟨by omega, by omega⟩]
  have hob : ∀ k, inB B k = false → (e.join B e2).blk k = e.blk k := fun k hk => by simp [Env.join, hk]
  have hos : ∀ k, inB B k = false → (e.join B e2).sv k = e.sv k := fun k hk => by simp [Env.join, hk]
  have hol : ∀ k, inB B k = false → (e.join B e2).lent k = e.lent k := fun k hk => by simp [Env.join, hk]
  -- whose is it?
  have hsmall : ∀ k ob, hget H k = some ob → k < 1000 ∧ obSmall ob = true := by
    intro k ob hk
    have : ∀ (H : Hp), smallH H = true → hget H k = some ob → k < 1000 ∧ obSmall ob = true := by
      intro H
      induction H with
      | nil => intro _ hh; simp [hget] at hh
      | cons p H ih =>
        intro hH hk
        obtain ⟨i, o⟩ := p
        simp only [smallH, List.all_cons, Bool.and_eq_true] at hH
        by_cases hki : k = i
        · subst hki
          rw [hget_same] at hk
          subst hk
          refine ⟨by have := hH.1.1; simpa using this, ?_⟩
          simpa using hH.1.2
        · rw [hget_other hki] at hk
          exact ih (by simpa [smallH] using hH.2) hk
    exact this H hH hk
  have hwho : ∀ k ob, hget (hren (B + ·) H ++ hkilp (inB B) h) k = some ob → (∃ j ob0, k = B + j ∧ j < 1000 ∧ hget H j = some ob0 ∧ ob = ob0.ren (B + ·)) ∨ (inB B k = false ∧ ∃ ob0, hget h k = some ob0 ∧ ob = ob0.kilp (inB B)) := by
    intro k ob hk
    rw [hget_append] at hk
    split at hk
    · left
      by_cases hex : ∃ j, B + j = k
      · obtain ⟨j, rfl⟩ := hex
        rw [hget_ren (B + ·) (fun i j h => by simpa using h)] at hk
        obtain ⟨ob0, h0, rfl⟩ := Option.map_eq_some_iff.1 hk
        exact ⟨j, ob0, rfl, (hsmall j ob0 h0).1, h0, rfl⟩
      · rw [hget_ren_none (B + ·) H k (fun j hj => hex ⟨j, hj⟩)] at hk
        cases hk
    · right
      rw [hget_kilp] at hk
      split at hk
      · cases hk
      · rename_i hf
        obtain ⟨ob0, h0, rfl⟩ := Option.map_eq_some_iff.1 hk
        exact ⟨by simpa using hf, ob0, h0, rfl⟩
  have hR1 : ∀ b o u, RDx w0 Rd0 e h w b o u → RDx w0 Rd0 (e.join B e2) (hren (B + ·) H ++ hkilp (inB B) h) w' b o u := by
    rintro b o u hr
    have hr' := hr
    obtain ⟨h1, h2, h3⟩ := hr'
    have hblt := World.block_lt_of_cell? w _ h1
    refine ⟨hs2.ext.cell h1, h2, fun k ob hk hb => ?_⟩
    rcases hwho k ob hk with ⟨j, ob0, rfl, hj, h0, rfl⟩ | ⟨hf, ob0, h0, rfl⟩
    · rw [hjb j hj] at hb
      have := (hs2.base _ _ _ h0 hb).1
      simp only at hblt
      omega
    · rw [hob k hf] at hb
      rw [hol k hf]
      exact h3 k ob0 h0 hb
  have hR2 : ∀ b o u, RDx w (RDx w0 Rd0 e h w) e2 H w' b o u → RDx w0 Rd0 (e.join B e2) (hren (B + ·) H ++ hkilp (inB B) h) w' b o u := by
    rintro b o u ⟨h1, h2, h3⟩
    refine ⟨h1, fun hlt => (h2 (Nat.lt_of_lt_of_le hlt hs.ext.size)).2.1 hlt, fun k ob hk hb => ?_⟩
    rcases hwho k ob hk with ⟨j, ob0, rfl, hj, h0, rfl⟩ | ⟨hf, ob0, h0, rfl⟩
    · rw [hjb j hj] at hb
      rw [hjl j hj]
      exact h3 j ob0 h0 hb
    · rw [hob k hf] at hb
      rw [hol k hf]
      exact (h2 (hs.base _ _ _ h0 hb).2).2.2 k ob0 h0 hb
  refine ⟨⟨hs.ext.trans hs2.ext, hs.good, fun k ob hk => ?_, fun k ob b hk hb => ?_, fun k k' ob ob' b hk hk' hb hb' => ?_⟩, hR1, hR2⟩
  · rcases hwho k ob hk with ⟨j, ob0, rfl, hj, h0, rfl⟩ | ⟨hf, ob0, h0, rfl⟩
    · have ho := (hs2.ob j ob0 h0).mono hR2
      have hn := (hsmall j ob0 h0).2
      -- names from 1000 on are not met
      have ho2 : OR (RDx w0 Rd0 (e.join B e2) (hren (B + ·) H ++ hkilp (inB B) h) w') ⟨fun k => (e.join B e2).blk (B + k), fun k => (e.join B e2).sv (B + k), fun k => (e.join B e2).lent (B + k)⟩ w' j ob0 := by
        have := ho.envp (e' := ⟨fun k => (e.join B e2).blk (B + k), fun k => (e.join B e2).sv (B + k), fun k => (e.join B e2).lent (B + k)⟩) (fun k => !Nat.blt k 1000) (by simpa using hj)
          (fun i hi => hjb i (by simpa using hi)) (fun i hi => hjs i (by simpa using hi)) (fun i hi => hjl i (by simpa using hi))
        have he : ob0.kilp (fun k => !Nat.blt k 1000) = ob0 := by
          cases ob0 with
          | box t cs =>
            simp only [Ob.kilp]
            congr 1
            rw [List.map_congr_left (g := id), List.map_id]
            intro c hc
            obtain ⟨i, hi, rfl⟩ := List.getElem_of_mem hc
            exact kilp_of_nom (nomL_get hn i _ (List.getElem?_eq_getElem hi))
          | arr => rfl
          | mp => rfl
        rw [he] at this
        exact this
      exact ho2.ren (B + ·) (fun _ => rfl) (fun _ => rfl) (fun _ => rfl)
    · exact (OR.envp (inB B) (((hs.ob k ob0 h0)) |> fun x => (by
        have hx := hs2.ext
        cases ob0 with
        | box t cs =>
          obtain ⟨a0, b, us, a1, a2, a3⟩ := x
          exact (⟨a0, b, us, a1, hx.block a2, a3.imp fun _ _ hv => hv.mono hR1⟩ : OR (RDx w0 Rd0 (e.join B e2) (hren (B + ·) H ++ hkilp (inB B) h) w') e w' k (.box t cs))
        | arr t sz rows wr =>
          obtain ⟨a0, a1, a2, a3⟩ := x
          refine (⟨a0, a1, a2, ?_⟩ : OR (RDx w0 Rd0 (e.join B e2) (hren (B + ·) H ++ hkilp (inB B) h) w') e w' k (.arr t sz rows wr))
          rcases a3 with a3 | ⟨b, cap, cur, b1, b2, b3, b4, b5, b6, b7, b8⟩
          · exact .inl a3
          · exact .inr ⟨b, cap, cur, b1, b2, b3, b4, hx.block b5, b6, b7.imp fun _ _ hv => hv.mono hR1, b8⟩
        | mp d es =>
          obtain ⟨a0, b, arr, clock, a1, a2, a3⟩ := x
          exact (⟨a0, b, arr, clock, a1, hx.block a2, a3.mono hR1⟩ : OR (RDx w0 Rd0 (e.join B e2) (hren (B + ·) H ++ hkilp (inB B) h) w') e w' k (.mp d es)))) hf hob hos hol)
  · rcases hwho k ob hk with ⟨j, ob0, rfl, hj, h0, rfl⟩ | ⟨hf, ob0, h0, rfl⟩
    · rw [hjb j hj] at hb
      have := hs2.base _ _ _ h0 hb
      have := hs.ext.size
      omega
    · rw [hob k hf] at hb
      have := hs.base _ _ _ h0 hb
      have := hs2.ext.size
      omega
  · rcases hwho k ob hk with ⟨j, ob0, rfl, hj, h0, rfl⟩ | ⟨hf, ob0, h0, rfl⟩
    · rw [hjb j hj] at hb
      rcases hwho k' ob' hk' with ⟨j', ob0', rfl, hj', h0', rfl⟩ | ⟨hf', ob0', h0', rfl⟩
      · rw [hjb j' hj'] at hb'
        rw [hs2.inj _ _ _ _ _ h0 h0' hb hb']
      · rw [hob k' hf'] at hb'
        have := (hs2.base _ _ _ h0 hb).1
        have := (hs.base _ _ _ h0' hb').2
        omega
    · rw [hob k hf] at hb
      rcases hwho k' ob' hk' with ⟨j', ob0', rfl, hj', h0', rfl⟩ | ⟨hf', ob0', h0', rfl⟩
      · rw [hjb j' hj'] at hb'
        have := (hs2.base _ _ _ h0' hb').1
        have := (hs.base _ _ _ h0 hb).2
        omega
      · rw [hob k' hf'] at hb'
        exact hs.inj _ _ _ _ _ h0 h0' hb hb'
end Go.Proofs.Ytiejnblpmfgpbaa
