/- New blocks, new slices, appends, maps, stores, reckoned. -/
import Derived.Test.YtggnolfcgaglfaaExE
set_option linter.unusedVariables false
set_option linter.unusedSimpArgs false
namespace Go.Proofs.Ytggnolfcgaglfaa
open Go Go.RowKit
noncomputable section

theorem Fresh.x {d : Nat} {st : St} (hf : Fresh (.one d) st) (x : Operand) : (st.ev x).nom (fun k => k == d) = true := by
  cases x with
  | tmp i => exact hf.t i
  | const v => show (cvA v).nom _ = true; unfold cvA; split <;> rfl
  | global g => show (gA g).nom _ = true; unfold gA; split <;> rfl
  | func f => rfl
theorem cellsOf_nom {p : Nat → Bool} {c : AV} {cs : List AV} (h : cellsOf c = some cs) (hn : c.nom p = true) : AV.nomL p cs = true := by
  cases c with
  | ag l => simp only [cellsOf, Option.some.injEq] at h; subst h; simpa [AV.nom] using hn
  | _ =>
    simp only [cellsOf] at h
    split at h
    · simp only [Option.some.injEq] at h; subst h; simp [AV.nomL, hn]
    · cases h
theorem map_kill_nom {d : Nat} : ∀ {cs : List AV}, AV.nomL (fun k => k == d) cs = true → cs.map (AV.kill d) = cs
  | [], _ => rfl
  | c :: cs, h => by
    simp only [AV.nomL, Bool.and_eq_true] at h
    rw [List.map_cons, kill_nom h.1, map_kill_nom h.2]
theorem hkill_os {hg : Nat → Option EOb} (d : Nat) : ∀ {os : EHp} {h : Hp}, OsOk hg os → hkill d (encH os ++ h) = encH os ++ hkill d h
  | [], h, _ => rfl
  | (k, o) :: os, h, ho => by
    obtain ⟨t, r, xs, wr, h1, rfl⟩ := ho k o (by simp)
    have ih := hkill_os d (os := os) (h := h) fun k o hm => ho k o (by simp [hm])
    simp only [encH, List.cons_append, hkill, ih]
    rfl
theorem cvA_nom (p : Nat → Bool) (v : Value) : (cvA v).nom p = true := by unfold cvA; split <;> rfl
theorem cvAs_nom (p : Nat → Bool) : ∀ z : List Value, AV.nomL p (z.map cvA) = true
  | [] => rfl
  | v :: z => by simp only [List.map_cons, AV.nomL, cvA_nom, cvAs_nom p z]; rfl

def makI (a : Int) (b : Nat) : Option Nat := if 0 ≤ a ∧ b * a.toNat ≤ 140737488355328 ∧ a.toNat ≤ maxLen then some a.toNat else none
def appI {α : Type} (b : Nat) (xs ys : List α) : Option (List α) := if (xs.length + ys.length) * b ≤ 140737488355328 ∧ xs.length + ys.length ≤ maxLen then some (xs ++ ys) else none
def isNilB {α : Type} : List α → Bool
  | [] => true
  | _ :: _ => false
/-- elements of a literal, in their order -/
def partsL (ev : Nat → EV) (hg : Nat → Option EOb) (r : Sc) : Nat → List (Nat × Operand) → Option (List r.Val × EHp × List Nat)
  | _, [] => some ([], [], [])
  | j, (i, x) :: ps => cond (Nat.beq i j) (match lendV hg r (evx ev x) with
    | some (v, os, us) => match partsL ev hg r (j + 1) ps with
      | some (vs, os2, us2) => some (v :: vs, os2 ++ os, us ++ us2)
      | none => none
    | none => none) none
def exLit (T : TypeId → TInfo) (ev : Nat → EV) (hg : Nat → Option EOb) (d : Nat) (t : TypeId) (len : Nat) (parts : List (Nat × Operand)) {R : Type} (k : EV → EHp → List Nat → Fr → Option R) : Option R :=
  match len with
  | 0 => match parts with
    | [] => match (T t).el with
      | some (_, sz, _, _) => cond (Nat.blt 0 sz) (k .nil [] [] .no) none
      | none => none
    | _ => none
  | m + 1 => match (T t).el with
    | some (e, sz, _, _) => match (T t).co with
      | some r => match partsL ev hg r 0 parts with
        | some (vs, os, us) => cond (Nat.beq sz r.w && Nat.beq vs.length (m + 1) && Nat.ble ((m + 1) * sz) 16777216 && Nat.blt 0 sz) (k (.ow d) ((d, some (.arr e r vs true)) :: os) us (.one d)) none
        | none => none
      | none => none
    | none => none
/-- a literal that is never written again -/
def exLitT (T : TypeId → TInfo) (ev : Nat → EV) (hg : Nat → Option EOb) (d : Nat) (t : TypeId) (len : Nat) (parts : List (Nat × Operand)) {R : Type} (k : EV → EHp → List Nat → Fr → Option R) : Option R :=
  match len with
  | 0 => none
  | m + 1 => match (T t).el with
    | some (e, sz, _, _) => match (T t).co with
      | some r => match partsL ev hg r 0 parts with
        | some (vs, os, us) => cond (Nat.beq sz r.w && Nat.beq vs.length (m + 1) && Nat.ble ((m + 1) * sz) 16777216 && Nat.blt 0 sz) (k (.ts r vs) os us .no) none
        | none => none
      | none => none
    | none => none
def exAppend (T : TypeId → TInfo) (ev : Nat → EV) (hg : Nat → Option EOb) (d : Nat) (t : TypeId) (x y : Operand) {R : Type} (k : EV → EHp → List Nat → Fr → Option R) : Option R :=
  match (T t).el with
  | some (e, sz, b, _) => match slSrc hg (evx ev y) with
    | some s => cond (Nat.beq sz s.r.w && Nat.blt 0 sz) (match evx ev x with
      | .nil => obind (appI b [] s.xs) fun zs => k (.ow d) ((d, some (.arr e s.r zs true)) :: s.os) s.us (.one d)
      | .ts r xs => match castS (.sl r) (.sl s.r) xs with
        | some xs' => cond (isNilB s.xs) none (obind (appI b (show List s.r.Val from xs') s.xs) fun zs => k (.ow d) ((d, some (.arr e s.r zs true)) :: s.os) s.us (.one d))
        | none => none
      | .ow j => match hg j with
        | some (.arr e' r xs wr) => match castS (.sl r) (.sl s.r) xs with
          | some xs' => cond (Nat.beq e e' && !(s.us.contains j) && !(Nat.beq d j)) (obind (appI b (show List s.r.Val from xs') s.xs) fun zs => k (.ow d) ((d, some (.arr e s.r zs wr)) :: (j, none) :: s.os) (j :: s.us) (.one d)) none
          | none => none
        | _ => none
      | _ => none) none
    | none => none
  | none => none
def valX (s : Sc) (c : EV) : Option s.Val := match s with
  | .i k => match c with
    | .sc s' x => castS s' (.i k) x
    | _ => none
  | .b => match c with
    | .sc s' x => castS s' .b x
    | _ => none
  | .pr a b2 => match c with
    | .ag cs => cond (Sc.key (.pr a b2)) (match asJ (.pr a b2) cs with
      | some (x, []) => some x
      | _ => none) none
    | _ => none
  | _ => none
theorem valX_ok {s : Sc} {c : EV} {x : s.Val} (h : valX s c = some x) : enc c = enc (valE s x) ∧ (enc c).fz = false ∨ enc c = enc (valE s x) ∧ (enc c).fz = true := by
  have : enc c = enc (valE s x) := by
    unfold valX at h
    split at h
    · split at h
      · obtain ⟨rfl, rfl⟩ := castS_ok h; rfl
      · cases h
    · split at h
      · obtain ⟨rfl, rfl⟩ := castS_ok h; rfl
      · cases h
    · split at h
      · obtain ⟨h1, h2⟩ := cond_none h
        split at h2
        · rename_i x' hj
          cases h2
          obtain ⟨cs0, e1, e2⟩ := asJ_ok _ hj h1
          rw [List.append_nil] at e1
          subst e1
          simp only [enc, valE, e2, encL_split]
        · cases h2
      · cases h
    · cases h
  cases hf : (enc c).fz with
  | true => exact .inr ⟨this, rfl⟩
  | false => exact .inl ⟨this, rfl⟩
theorem lendCs_fz {h : Hp} : ∀ {cs : List AV}, (∀ c ∈ cs, c.fz = true) → lendCs h cs = some (h, cs)
  | [], _ => rfl
  | c :: cs, hc => by
    have ih := lendCs_fz (h := h) (cs := cs) fun c hm => hc c (by simp [hm])
    simp only [lendCs, lendC_fz (hc c (by simp)), ih]
theorem lendA_valE {h : Hp} (s : Sc) (x : s.Val) : lendA h (enc (valE s x)) = some (h, enc (valE s x)) := by
  cases s with
  | pr a b2 =>
    simp only [valE, enc, encL_split, lendA, lendCs_fz (encC_fz (.pr a b2) x)]
  | u => rfl
  | _ => rfl
/-- a row, one piece of it turned -/
def putC (hg : Nat → Option EOb) (c : EV) : (r : Sc) → r.Val → Nat → Nat → Option (r.Val × EHp × List Nat)
  | .pr a b2, x, o, m => cond (Nat.beq o 0 && Nat.beq m (a.w + b2.w)) (lendV hg (.pr a b2) c) (cond (Nat.blt o a.w) (match putC hg c a x.1 o m with
    | some (y, os, us) => some ((y, x.2), os, us)
    | none => none) (match putC hg c b2 x.2 (o - a.w) m with
    | some (y, os, us) => some ((x.1, y), os, us)
    | none => none))
  | .i k, _, o, m => cond (Nat.beq o 0 && Nat.beq m 1) (lendV hg (.i k) c) none
  | .b, _, o, m => cond (Nat.beq o 0 && Nat.beq m 1) (lendV hg .b c) none
  | .sl r, _, o, m => cond (Nat.beq o 0 && Nat.beq m 1) (lendV hg (.sl r) c) none
  | .u, _, _, _ => none

theorem setCells_append_left : ∀ (xs a b : List AV) (o : Nat), o + xs.length ≤ a.length → setCells (a ++ b) o xs = setCells a o xs ++ b
  | [], a, b, o, h => rfl
  | x :: xs, a, b, o, h => by
    simp only [List.length_cons] at h
    simp only [setCells]
    rw [List.set_append_left _ _ (by omega)]
    exact setCells_append_left xs _ b (o + 1) (by simp; omega)
theorem setCells_append_right : ∀ (xs a b : List AV) (o : Nat), a.length ≤ o → setCells (a ++ b) o xs = a ++ setCells b (o - a.length) xs
  | [], a, b, o, h => rfl
  | x :: xs, a, b, o, h => by
    simp only [setCells]
    rw [List.set_append_right _ _ h, setCells_append_right xs a _ (o + 1) (by omega)]
    congr 2
    omega
theorem setCells_all : ∀ (xs a : List AV), xs.length = a.length → setCells a 0 xs = xs
  | [], [], _ => rfl
  | x :: xs, y :: a, h => by
    simp only [setCells, List.set_cons_zero]
    have := setCells_append_right xs [x] a 1 (by simp)
    simp only [List.singleton_append, List.length_singleton, Nat.sub_self, Nat.zero_add] at this ⊢
    rw [this, setCells_all xs a (by simpa using h)]
theorem putC_ok {hg : Nat → Option EOb} {c : EV} {h : Hp} {us' : List Nat} (hh : HC hg us' h) : ∀ (r : Sc) (x : r.Val) (o m : Nat) {y : r.Val} {os : EHp} {us : List Nat}, putC hg c r x o m = some (y, os, us) → (∀ k, us.contains k = true → us'.contains k = true) →
    (∃ c1 xs, lendA h (enc c) = some (encH os ++ h, c1) ∧ cellsOf c1 = some xs ∧ xs.all AV.one = true ∧ xs.length = m ∧ o + m ≤ r.w ∧ WkL (setCells (encC r x) o xs) (encC r y)) ∧ OsOk hg os := by
  have base : ∀ (r : Sc) (x : r.Val) (o m : Nat) {y : r.Val} {os : EHp} {us : List Nat}, Nat.beq o 0 = true → Nat.beq m r.w = true → lendV hg r c = some (y, os, us) → (∀ k, us.contains k = true → us'.contains k = true) →
      (∃ c1 xs, lendA h (enc c) = some (encH os ++ h, c1) ∧ cellsOf c1 = some xs ∧ xs.all AV.one = true ∧ xs.length = m ∧ o + m ≤ r.w ∧ WkL (setCells (encC r x) o xs) (encC r y)) ∧ OsOk hg os := by
    intro r x o m y os us h1 h2 hl hu
    have h1 := Nat.eq_of_beq_eq_true h1
    have h2 := Nat.eq_of_beq_eq_true h2
    subst h1 h2
    obtain ⟨⟨c1, xs, g1, g2, g3, g4⟩, g5⟩ := lendV_cells hl hh hu
    have hlen : xs.length = r.w := by rw [← g3.len, encC_len]
    refine ⟨⟨c1, xs, g1, g2, g4, hlen, by omega, ?_⟩, g5⟩
    rw [setCells_all xs _ (by rw [encC_len]; exact hlen)]
    exact g3
  intro r
  induction r with
  | pr a b2 iha ihb =>
    intro x o m y os us hp hu
    simp only [putC] at hp
    rcases cond_some hp with ⟨h1, h2⟩ | ⟨h1, h2⟩
    · simp only [Bool.and_eq_true] at h1
      exact base _ x o m h1.1 h1.2 h2 hu
    · rcases cond_some h2 with ⟨h3, h4⟩ | ⟨h3, h4⟩
      · split at h4
        · rename_i y1 os1 us1 hy
          simp only [Option.some.injEq, Prod.mk.injEq] at h4
          obtain ⟨rfl, rfl, rfl⟩ := h4
          obtain ⟨⟨c1, xs, g1, g2, g3, g4, g5, g6⟩, g7⟩ := iha x.1 o m hy hu
          refine ⟨⟨c1, xs, g1, g2, g3, g4, by simp only [Sc.w]; omega, ?_⟩, g7⟩
          simp only [encC]
          rw [setCells_append_left _ _ _ _ (by rw [encC_len]; omega)]
          exact g6.append (WkL.refl _)
        · cases h4
      · split at h4
        · rename_i y1 os1 us1 hy
          simp only [Option.some.injEq, Prod.mk.injEq] at h4
          obtain ⟨rfl, rfl, rfl⟩ := h4
          have h5 : a.w ≤ o := by
            cases hb : Nat.blt o a.w with
            | true => rw [hb] at h3; cases h3
            | false =>
              have : ¬ o < a.w := fun hlt => by
                have := Nat.ble_eq_true_of_le hlt
                rw [show Nat.blt o a.w = Nat.ble (o + 1) a.w from rfl] at hb
                rw [this] at hb; cases hb
              omega
          obtain ⟨⟨c1, xs, g1, g2, g3, g4, g5, g6⟩, g7⟩ := ihb x.2 (o - a.w) m hy hu
          refine ⟨⟨c1, xs, g1, g2, g3, g4, by simp only [Sc.w]; omega, ?_⟩, g7⟩
          simp only [encC]
          rw [setCells_append_right _ _ _ _ (by rw [encC_len]; omega), encC_len]
          exact (WkL.refl _).append g6
        · cases h4
  | i k =>
    intro x o m y os us hp hu
    simp only [putC] at hp
    obtain ⟨h1, h2⟩ := cond_none hp
    simp only [Bool.and_eq_true] at h1
    exact base _ x o m h1.1 h1.2 h2 hu
  | b =>
    intro x o m y os us hp hu
    simp only [putC] at hp
    obtain ⟨h1, h2⟩ := cond_none hp
    simp only [Bool.and_eq_true] at h1
    exact base _ x o m h1.1 h1.2 h2 hu
  | sl r ih =>
    intro x o m y os us hp hu
    simp only [putC] at hp
    obtain ⟨h1, h2⟩ := cond_none hp
    simp only [Bool.and_eq_true] at h1
    exact base _ x o m h1.1 h1.2 h2 hu
  | u =>
    intro x o m y os us hp hu
    simp [putC] at hp

def holeOk : Option (Int × Option Nat) → Int → Bool
  | none, _ => true
  | some (i0, _), i => decide (i.toNat = i0.toNat)
/-- a store -/
def exStore (T : TypeId → TInfo) (ev : Nat → EV) (hg : Nat → Option EOb) (t : TypeId) (x y : Operand) {R : Type} (k : EHp → List Nat → Option R) : Option R :=
  match (T t).ty with
  | some (_, m) => match evx ev x with
    | .pt j o => match hg j with
      | some (.box bt cs) => match cellsE (evx ev y) with
        | some xs => cond (!(Nat.beq bt itT) && Nat.beq xs.length m && Nat.ble (o + m) cs.length && (encL xs).all AV.one && owE hg (evx ev y) && xs.all (owE hg)) (k [(j, some (.box bt (setCellsE cs o xs)))] (j :: owU (evx ev y) ++ xs.flatMap owU)) none
        | none => none
      | _ => none
    | .pe j i sz o => match hg j with
      | some (.arr bt r xs true) => cond (Nat.beq sz r.w) (obind (nthI xs i) fun a => match putC hg (evx ev y) r a o m with
        | some (a', os, us) => cond (us.contains j) none (k ((j, some (.arr bt r (xs.set i.toNat a') true)) :: os) (j :: us))
        | none => none) none
      | some (.nr bt r xs ho) => cond (Nat.beq sz 1 && Nat.beq o 0 && Nat.beq m 1) (match evx ev y with
        | .ow p => match hg p with
          | some (.arr _ _ _ _) => cond (holeOk ho i) (obind (nthI xs i) fun _ => k [(j, some (.nr bt r xs (some (i, some p))))] [j, p]) none
          | _ => none
        | _ => none) none
      | _ => none
    | _ => none
  | none => none
def exMapPut (T : TypeId → TInfo) (ev : Nat → EV) (hg : Nat → Option EOb) (t : TypeId) (x y v : Operand) {R : Type} (k : EHp → List Nat → Option R) : Option R :=
  match evx ev x with
  | .mp j => match hg j with
    | some (.mp d kc vc es) => match (T t).mp with
      | some (td, _) => match keyE kc (evx ev y) with
        | some a => match valX vc (evx ev v) with
          | some b => cond (keyOk d kc && keyOk td kc) (k [(j, some (.mp d kc vc (mput kc es a b)))] [j]) none
          | none => none
        | none => none
      | none => none
    | _ => none
  | _ => none
def nilZ : List Value → Bool
  | [.slice none 0 0] => true
  | _ => false
/-- a row of slices, each nil -/
def exMakeNr (T : TypeId → TInfo) (ev : Nat → EV) (d : Nat) (t : TypeId) (x y : Operand) {R : Type} (k : EV → EHp → List Nat → Fr → Option R) : Option R :=
  match (T t).el with
  | some (e, sz, b, z) => match (T t).co with
    | some (.sl r) => cond (Nat.beq sz 1 && sameOp x y && nilZ z) (match intE ev x with
      | some a => match intE ev y with
        | some _ => obind (makI a b) fun m => k (.ow d) [(d, some (.nr e r (List.replicate m ([] : List r.Val)) none))] [] (.one d)
        | none => none
      | none => none) none
    | _ => none
  | none => none
/-- an array in a block, cut -/
def exWin (T : TypeId → TInfo) (ev : Nat → EV) (hg : Nat → Option EOb) (t : TypeId) (j o : Nat) (lo hi mx : Option Operand) {R : Type} (k : EV → List Nat → Option R) : Option R :=
  match (T t).ar with
  | some (n, _, sz) => match hg j with
    | some (.arr _ r xs _) => cond (Nat.beq o 0 && Nat.beq sz r.w && mx.isNone && Nat.ble n 1000000) (match loE ev lo with
      | some l => match hiE ev n hi with
        | some h => obind (subI (List.replicate n ()) l h) fun _ => k (.sw j l (h - l) sz) [j]
        | none => none
      | none => none) none
    | _ => none
  | none => none
/-- all zeros? -/
def allZ (r : Sc) : Nat → List Value → Bool
  | 0, z => z.isEmpty
  | n + 1, z => match zcOk r z with
    | some z' => allZ r n z'
    | none => false
/-- operations that make something -/
def exM (T : TypeId → TInfo) (ev : Nat → EV) (hg : Nat → Option EOb) (d : Nat) (op : Op) {R : Type} (k : EV → EHp → List Nat → Fr → Option R) : Option R :=
  match op with
  | .box t x => match cellsE (evx ev x) with
    | some cs => cond (!(Nat.beq t itT) && owE hg (evx ev x)) (k (.pt d 0) [(d, some (.box t cs))] (owU (evx ev x)) (.one d)) none
    | none => none
  | .alloc t => cond (!(Nat.beq t itT)) (match (T t).ze with
    | some z => match (T t).ar with
      | some (n, _, sz) => cond (Nat.ble n 3) (k (.pt d 0) [(d, some (.box t (z.map cvE)))] [] (.one d)) (match (T t).co with
        | some r => cond (Nat.beq sz r.w && allZ r n z && Nat.ble n 1000000) (k (.pt d 0) [(d, some (.arr t r (List.replicate n (zeroV r)) true))] [] (.one d)) none
        | none => none)
      | none => k (.pt d 0) [(d, some (.box t (z.map cvE)))] [] (.one d)
    | none => none) none
  | .makeSlice t x y => match (T t).el with
    | some (e, sz, b, z) => match (T t).co with
      | some r => cond (Nat.beq sz r.w && Nat.blt 0 sz && sameOp x y) (match zcOk r z with
        | some [] => match intE ev x with
          | some a => match intE ev y with
            | some _ => obind (makI a b) fun m => k (.ow d) [(d, some (.arr e r (List.replicate m (zeroV r)) true))] [] (.one d)
            | none => none
          | none => none
        | _ => none) none
      | none => none
    | none => none
  | .makeMap t none => match (T t).mp with
    | some (td, _) => match (T t).kv with
      | some (kc, vc) => cond (keyOk td kc) (k (.mp d) [(d, some (.mp td kc vc []))] [] (.one d)) none
      | none => none
    | none => none
  | .slice t x lo hi mx => match evx ev x with
    | .pt j o => exWin T ev hg t j o lo hi mx fun c us => k c [] us .no
    | _ => exSlice T ev hg t x lo hi mx fun c os us => k c os us .no
  | .buildSlice t len parts => exLit T ev hg d t len parts.toList k
  | .call ⟨.builtin .append, ⟨[x, y]⟩, ⟨[t, t']⟩⟩ => cond (Nat.beq t t') (exAppend T ev hg d t x y k) none
  | _ => none
section
variable {P : Program} {T : TypeId → TInfo} {ev : Nat → EV} {hg : Nat → Option EOb} {n d : Nat} {ty : TypeId} {pos : String} {af : Array Edge} {gd : Option (Nat × Bool)}

theorem FS.box {t : TypeId} {x : Operand} {cs : List EV} (hti : t ≠ itT) (hd : d < n) (hc : cellsE (evx ev x) = some cs) (ho : owE hg (evx ev x) = true) :
    FS P ⟨some d, .box t x, ty, pos, af, gd⟩ n ev hg (.pt d 0) [(d, some (.box t cs))] (owU (evx ev x)) (.one d) := by
  intro st hn hs hH hf
  have hx : st.ev x = enc (evx ev x) := hs.is rfl (fun e => by rw [e] at hc; simp [cellsE, enc, AV.one] at hc)
  have hc' := cellsE_ok hc
  rw [← hx] at hc'
  have hk := map_kill_nom (cellsOf_nom hc' (hf.x x))
  have := SS.box (P := P) (t := t) (ty := ty) (pos := pos) (af := af) (gd := gd) (d := d) (K := fun s => s = ⟨st.n, tput (some d) (.pt d 0) (tkill d st.t), encH [(d, some (.box t cs))] ++ hkill d st.h⟩) hti hc' (by rw [hx]; exact owE_ok ho hH fun _ h => h) (by omega) (by rw [hk]; rfl)
  exact SS.fresh hf.t hf.h this
theorem FS.alloc (hT : TOk P T) {t : TypeId} {z : List Value} (hti : t ≠ itT) (hd : d < n) (hz : (T t).ze = some z) :
    FS P ⟨some d, .alloc t, ty, pos, af, gd⟩ n ev hg (.pt d 0) [(d, some (.box t (z.map cvE)))] [] (.one d) := by
  intro st hn hs hH hf
  have hk := map_kill_nom (cvAs_nom (fun k => k == d) z)
  have := SS.alloc (P := P) (st := st) (t := t) (ty := ty) (pos := pos) (af := af) (gd := gd) (d := d) (K := fun s => s = ⟨st.n, tput (some d) (.pt d 0) (tkill d st.t), encH [(d, some (.box t (z.map cvE)))] ++ hkill d st.h⟩) hti (hT.ze _ _ hz) (by omega) (by rw [hk]; simp only [encH, Option.map, encO, encL_cvE]; rfl)
  exact SS.fresh hf.t hf.h this
theorem WkR.rep {a c : List AV} (h : WkL a c) : ∀ m, WkR (List.replicate m a) (List.replicate m c)
  | 0 => .nil
  | m + 1 => .cons h (WkR.rep h m)
theorem enc_rows_one (r : Sc) (xs : List r.Val) : ∀ c ∈ (List.map (encC r) xs).flatten, c.one = true := by
  intro c hc
  obtain ⟨l, hl, hc⟩ := List.mem_flatten.1 hc
  obtain ⟨x, _, rfl⟩ := List.mem_map.1 hl
  exact encC_one r x c hc
theorem FS.make (hT : TOk P T) {t e : TypeId} {x y : Operand} {sz b : Nat} {z : List Value} {r : Sc} {a : Int} {m : Nat} (hd : d < n) (he : (T t).el = some (e, sz, b, z)) (hw : sz = r.w) (h0 : 0 < sz) (hz : zcOk r z = some []) (hx : intE ev x = some a) (hy : intE ev y = some a) (hm : makI a b = some m) :
    FS P ⟨some d, .makeSlice t x y, ty, pos, af, gd⟩ n ev hg (.ow d) [(d, some (.arr e r (List.replicate m (zeroV r)) true))] [] (.one d) := by
  intro st hn hs hH hf
  unfold makI at hm
  split at hm
  · rename_i hb
    cases hm
    obtain ⟨z0, e1, e2, e3, e4⟩ := zcOk_ok r hz
    rw [List.append_nil] at e1
    subst e1
    obtain ⟨k1, q1⟩ := intE_ok hx hs
    obtain ⟨k2, q2⟩ := intE_ok hy hs
    have ha : ((a.toNat : Nat) : Int) = a := by omega
    have := SS.make (P := P) (t := t) (ty := ty) (pos := pos) (af := af) (gd := gd) (d := d) (n := a.toNat) (K := fun s => s = ⟨st.n, tput (some d) (.ow d) (tkill d st.t), [(d, some (.arr e sz (List.replicate a.toNat (z.map cvA)) true))] ++ hkill d st.h⟩) (hT.el _ _ he) (by rw [ha]; exact q1) (by rw [ha]; exact q2) hb.2.1 hb.2.2 e3 e4 h0 (by omega) rfl
    refine (SS.fresh hf.t hf.h this).eq_mono ?_
    subst hw
    have hwk := WkR.rep e2 a.toNat
    refine SLe.wkRow (h := st.h) (rows' := List.map (encC r) (List.replicate a.toNat (zeroV r))) ?_ (enc_rows_one r _)
    rw [List.map_replicate]
    exact hwk
  · cases hm
theorem flatten_rep1 (c : AV) : ∀ m : Nat, (List.replicate m [c]).flatten = List.replicate m c
  | 0 => rfl
  | m + 1 => by rw [List.replicate_succ, List.flatten_cons, flatten_rep1 c m]; rfl
theorem nilZ_ok {z : List Value} (h : nilZ z = true) : z = [.slice none 0 0] := by
  unfold nilZ at h
  split at h
  · rfl
  · cases h
theorem exMakeNr_ok (hT : TOk P T) {t : TypeId} {x y : Operand} {R : Type} {k : EV → EHp → List Nat → Fr → Option R} {r : R} (hd : d < n) (h : exMakeNr T ev d t x y k = some r) :
    ∃ e os us fr, FS P ⟨some d, .makeSlice t x y, ty, pos, af, gd⟩ n ev hg e os us fr ∧ k e os us fr = some r := by
  unfold exMakeNr at h
  split at h
  · rename_i e sz b z he
    split at h
    · rename_i r' hco
      obtain ⟨h1, h2⟩ := cond_none h
      simp only [Bool.and_eq_true] at h1
      obtain ⟨⟨a1, a2⟩, a3⟩ := h1
      have a1 := Nat.eq_of_beq_eq_true a1
      have a3 := nilZ_ok a3
      subst a1
      subst a3
      split at h2
      · rename_i a ha
        split at h2
        · rename_i a' ha'
          obtain ⟨m, hm, hk⟩ := obind_some h2
          obtain rfl := sameOp_ok a2 ha ha'
          refine ⟨_, _, _, _, fun st hn hs hH hf => ?_, hk⟩
          unfold makI at hm
          split at hm
          · rename_i hb
            cases hm
            obtain ⟨k1, q1⟩ := intE_ok ha hs
            obtain ⟨k2, q2⟩ := intE_ok ha' hs
            have haa : ((a.toNat : Nat) : Int) = a := by omega
            have := SS.make (P := P) (t := t) (ty := ty) (pos := pos) (af := af) (gd := gd) (d := d) (n := a.toNat) (K := fun s => s = ⟨st.n, tput (some d) (.ow d) (tkill d st.t), [(d, some (.arr e 1 (List.replicate a.toNat ([Value.slice none 0 0].map cvA)) true))] ++ hkill d st.h⟩) (hT.el _ _ he) (by rw [haa]; exact q1) (by rw [haa]; exact q2) hb.2.1 hb.2.2 rfl rfl (by omega) (by omega) rfl
            refine (SS.fresh hf.t hf.h this).eq_mono ?_
            refine SLe.wkOb (h := st.h) fun Rd e0 w0 ho => ?_
            have := ho.toNr
            have e1 : (List.replicate a.toNat ([Value.slice none 0 0].map cvA)).flatten = nrC r' (List.replicate a.toNat []) none := by
              show (List.replicate a.toNat [AV.sl true 0 []]).flatten = _
              rw [flatten_rep1, nrC, List.map_replicate]; rfl
            rw [e1] at this
            exact this
          · cases hm
        · cases h2
      · cases h2
    · cases h
  · cases h
theorem allZ_ok {r : Sc} : ∀ {n : Nat} {z : List Value}, allZ r n z = true → ∃ zs : List (List Value), zs.length = n ∧ zs.flatten = z ∧ WkR (zs.map (List.map cvA)) (List.replicate n (encC r (zeroV r))) ∧ ∀ y ∈ zs, y.all (fun v => (cvA v).one) = true
  | 0, z, h => by
    have : z = [] := by simpa [allZ] using h
    subst this
    exact ⟨[], rfl, rfl, .nil, fun y hy => (by cases hy)⟩
  | n + 1, z, h => by
    simp only [allZ] at h
    split at h
    · rename_i z' hz
      obtain ⟨z0, rfl, e2, e3, e4⟩ := zcOk_ok r hz
      obtain ⟨zs, h1, h2, h3, h4⟩ := allZ_ok h
      refine ⟨z0 :: zs, by simp [h1], by simp [h2], ?_, fun y hy => ?_⟩
      · rw [List.map_cons, List.replicate_succ]
        exact .cons e2 h3
      · rcases List.mem_cons.1 hy with rfl | hy
        · exact e4
        · exact h4 y hy
    · cases h
theorem FS.allocArr (hT : TOk P T) {t : TypeId} {z : List Value} {m sz : Nat} {r : Sc} (hd : d < n) (hz : (T t).ze = some z) (hw : sz = r.w) (ha : allZ r m z = true) (hm : m ≤ 1000000) :
    FS P ⟨some d, .alloc t, ty, pos, af, gd⟩ n ev hg (.pt d 0) [(d, some (.arr t r (List.replicate m (zeroV r)) true))] [] (.one d) := by
  intro st hn hs hH hf
  obtain ⟨zs, h1, h2, h3, h4⟩ := allZ_ok ha
  have hfl : (zs.map (List.map cvA)).flatten = z.map cvA := by rw [← h2, List.map_flatten]
  have hlen : ∀ q ∈ zs.map (List.map cvA), q.length = sz := by
    have key : ∀ {a c : List (List AV)}, WkR a c → (∀ x ∈ c, x.length = sz) → ∀ x ∈ a, x.length = sz := by
      intro a c hac
      induction hac with
      | nil => intro _ x hx; cases hx
      | cons h hs ih =>
        intro hc x hx
        rcases List.mem_cons.1 hx with rfl | hx
        · rw [← h.len]; exact hc _ (by simp)
        · exact ih (fun y hy => hc y (by simp [hy])) x hx
    refine key h3 fun x hx => ?_
    rw [List.eq_of_mem_replicate hx, encC_len, hw]
  have hone : ∀ c ∈ (zs.map (List.map cvA)).flatten, c.one = true := by
    intro c hc
    obtain ⟨q, hq, hcq⟩ := List.mem_flatten.1 hc
    obtain ⟨y, hy, rfl⟩ := List.mem_map.1 hq
    obtain ⟨v, hv, rfl⟩ := List.mem_map.1 hcq
    exact List.all_eq_true.1 (h4 y hy) v hv
  have := SS.allocArr (P := P) (t := t) (ty := ty) (pos := pos) (af := af) (gd := gd) (d := d) (K := fun s => s = ⟨st.n, tput (some d) (.pt d 0) (tkill d st.t), [(d, some (.arr t sz (zs.map (List.map cvA)) true))] ++ hkill d st.h⟩) (hT.ze _ _ hz) hlen (by rw [List.length_map, h1]) hfl hone (by unfold maxLen; omega) (by omega) rfl
  refine (SS.fresh hf.t hf.h this).eq_mono ?_
  subst hw
  refine SLe.wkRow (h := st.h) (rows' := List.map (encC r) (List.replicate m (zeroV r))) ?_ (enc_rows_one r _)
  rw [List.map_replicate]
  exact h3
theorem exWin_ok (hT : TOk P T) {R : Type} {k : EV → List Nat → Option R} {r : R} {t : TypeId} {x : Operand} {j o : Nat} {lo hi mx : Option Operand} (hx : evx ev x = .pt j o) (h : exWin T ev hg t j o lo hi mx k = some r) :
    ∃ c us, RSE P (.slice t x lo hi mx) ev hg c us ∧ k c us = some r := by
  unfold exWin at h
  split at h
  · rename_i n e sz ht
    split at h
    · rename_i bt rc xs wr hj
      obtain ⟨hc, h2⟩ := cond_none h
      clear h
      simp only [Bool.and_eq_true] at hc
      obtain ⟨⟨⟨c1, c2⟩, c3⟩, c4⟩ := hc
      have c1 := Nat.eq_of_beq_eq_true c1
      subst c1
      have c3 : mx = none := by simpa using c3
      subst c3
      have c4 := Nat.le_of_ble_eq_true c4
      split at h2
      · rename_i l hl
        split at h2
        · rename_i hh hhi
          obtain ⟨q, hq, hk⟩ := obind_some h2
          refine ⟨_, _, fun st d ty pos af gd hs hH => ?_, hk⟩
          unfold subI at hq
          split at hq
          · rename_i hb
            rw [List.length_replicate] at hb
            have := RS.window (P := P) (st := st) (dd := d) (ty := ty) (pos := pos) (af := af) (gd := gd) (hT.ar _ _ ht) (hs.is hx (by intro e; cases e)) (loE_ok hl hs hb.1) (hiE_ok hhi hs (by omega)) (l := l.toNat) (h := hh.toNat) (by omega) (by omega) (by unfold maxLen; omega)
            have e1 : (hh - l).toNat = hh.toNat - l.toNat := by omega
            simp only [enc, e1]
            exact this
          · cases hq
        · cases h2
      · cases h2
    · cases h
  · cases h
theorem FS.makeMap (hT : TOk P T) {t : TypeId} {td : TypeDesc} {z : Value} {kc vc : Sc} (hd : d < n) (hm : (T t).mp = some (td, z)) :
    FS P ⟨some d, .makeMap t none, ty, pos, af, gd⟩ n ev hg (.mp d) [(d, some (.mp td kc vc []))] [] (.one d) := by
  intro st hn hs hH hf
  have := SS.makeMap (P := P) (t := t) (ty := ty) (pos := pos) (af := af) (gd := gd) (d := d) (K := fun s => s = ⟨st.n, tput (some d) (.mp d) (tkill d st.t), [(d, some (.mp td []))] ++ hkill d st.h⟩) (hT.mp _ _ hm) (by omega) rfl
  exact SS.fresh hf.t hf.h this
theorem appI_some {α : Type} {b : Nat} {xs ys zs : List α} (h : appI b xs ys = some zs) : (xs.length + ys.length) * b ≤ 140737488355328 ∧ xs.length + ys.length ≤ maxLen ∧ zs = xs ++ ys := by
  unfold appI at h
  split at h
  · rename_i hb
    cases h
    exact ⟨hb.1, hb.2, rfl⟩
  · cases h
theorem exAppend_ok (hT : TOk P T) {t : TypeId} {x y : Operand} {R : Type} {k : EV → EHp → List Nat → Fr → Option R} {r : R} (hd : d < n) (h : exAppend T ev hg d t x y k = some r) :
    ∃ c os us fr, FS P ⟨some d, .call ⟨.builtin .append, #[x, y], #[t, t]⟩, ty, pos, af, gd⟩ n ev hg c os us fr ∧ k c os us fr = some r := by
  unfold exAppend at h
  split at h
  · rename_i e sz b z he
    split at h
    · rename_i s hsrc
      obtain ⟨h1, h2⟩ := cond_none h
      clear h
      simp only [Bool.and_eq_true] at h1
      have hw := Nat.eq_of_beq_eq_true h1.1
      have h0 : 0 < sz := Nat.le_of_ble_eq_true h1.2
      split at h2
      · rename_i hx
        obtain ⟨zs, hz, hk⟩ := obind_some h2
        obtain ⟨b1, b2, rfl⟩ := appI_some hz
        refine ⟨_, _, _, _, ?_, hk⟩
        intro st hn hs hH hf
        obtain ⟨g1, g2, g3⟩ := slSrc_ok hsrc hH.hc fun _ h => h
        have := SS.appendNil (P := P) (t := t) (x := x) (y := y) (ty := ty) (pos := pos) (af := af) (gd := gd) (d := d) (K := fun s' => s' = ⟨st.n, tput (some d) (.ow d) (tkill d st.t), ((d, some (.arr e sz (List.map (encC s.r) s.xs) true)) :: encH s.os) ++ hkill d st.h⟩)
          (hT.el _ _ he) (hs.is hx (by intro e; cases e)) (by rw [hs.is rfl g3, hw]; exact g1) h0 (by rw [List.length_map]; simpa using b2) (by rw [List.length_map]; simpa using b1) (by omega) (by rw [hkill_os d g2]; rfl)
        have h3 := SS.fresh hf.t hf.h this
        rw [hw] at h3
        exact h3
      · rename_i r' xs hx
        split at h2
        · rename_i xs' hc
          obtain ⟨e1, rfl⟩ := castS_ok hc
          cases e1
          rcases cond_some h2 with ⟨_, h3⟩ | ⟨hnb, h3⟩
          · cases h3
          obtain ⟨zs, hz, hk⟩ := obind_some h3
          obtain ⟨b1, b2, rfl⟩ := appI_some hz
          refine ⟨_, _, _, _, ?_, hk⟩
          intro st hn hs hH hf
          obtain ⟨g1, g2, g3⟩ := slSrc_ok hsrc hH.hc fun _ h => h
          have hne : 0 < s.xs.length := by
            cases hxs : s.xs with
            | nil => rw [hxs] at hnb; cases hnb
            | cons a as => simp
          have := SS.appendTight (P := P) (t := t) (x := x) (y := y) (ty := ty) (pos := pos) (af := af) (gd := gd) (d := d) (rows := List.map (encC s.r) xs) (K := fun s' => s' = ⟨st.n, tput (some d) (.ow d) (tkill d st.t), ((d, some (.arr e sz (List.map (encC s.r) xs ++ List.map (encC s.r) s.xs) true)) :: encH s.os) ++ hkill d st.h⟩)
            (hT.el _ _ he) (by rw [hs.is hx (by intro e; cases e), hw]; rfl) (by rw [hs.is rfl g3, hw]; exact g1) (by rw [List.length_map]; exact hne) h0 (by simp only [List.length_map]; exact b2) (by simp only [List.length_map]; exact b1) (by omega) (by rw [hkill_os d g2]; rfl)
          have h3 := SS.fresh hf.t hf.h this
          rw [hw, ← List.map_append] at h3
          exact h3
        · cases h2
      · rename_i j hx
        split at h2
        · rename_i e' r' xs wr hj
          split at h2
          · rename_i xs' hc
            obtain ⟨e1, rfl⟩ := castS_ok hc
            cases e1
            obtain ⟨q, h3⟩ := cond_none h2
            simp only [Bool.and_eq_true, Bool.not_eq_true'] at q
            obtain ⟨⟨q1, q2⟩, q3⟩ := q
            have q1 := Nat.eq_of_beq_eq_true q1
            subst q1
            have q3 : d ≠ j := fun e => by rw [e, Nat.beq_refl] at q3; cases q3
            obtain ⟨zs, hz, hk⟩ := obind_some h3
            obtain ⟨b1, b2, rfl⟩ := appI_some hz
            refine ⟨_, _, _, _, ?_, hk⟩
            intro st hn hs hH hf
            have hus : ∀ k, s.us.contains k = true → (j :: s.us).contains k = true := fun k hk => by simp at hk ⊢; exact .inr hk
            obtain ⟨g1, g2, g3⟩ := slSrc_ok hsrc hH.hc hus
            have hjk : hget (encH s.os ++ st.h) j = some (.arr e s.r.w (List.map (encC s.r) xs) wr) := by
              rw [hget_append, any_enc]
              have hno : s.os.any (fun p => p.1 == j) = false := by
                have key : ∀ c, slSrc hg c = some s → ∀ p ∈ s.os, s.us.contains p.1 = true := by
                  intro c hc p hp
                  unfold slSrc at hc
                  split at hc
                  · simp only [Option.some.injEq] at hc; rw [← hc] at hp; cases hp
                  · simp only [Option.some.injEq] at hc; rw [← hc] at hp; cases hp
                  · split at hc
                    · simp only [Option.some.injEq] at hc
                      rw [← hc] at hp ⊢
                      simp at hp
                      simp [hp]
                    · cases hc
                  · cases hc
                cases ha : s.os.any (fun p => p.1 == j) with
                | false => rfl
                | true =>
                  obtain ⟨p, hp, hpj⟩ := List.any_eq_true.1 ha
                  have := key _ hsrc p hp
                  rw [show p.1 = j by simpa using hpj] at this
                  rw [this] at q2; cases q2
              rw [hno]
              exact hH.at (by simp) hj
            have := SS.appendOw (P := P) (t := t) (x := x) (y := y) (ty := ty) (pos := pos) (af := af) (gd := gd) (d := d) (k := j) (rows := List.map (encC s.r) xs) (wr := wr) (K := fun s' => s' = ⟨st.n, tput (some d) (.ow d) (tkill d st.t), ((d, some (.arr e sz (List.map (encC s.r) xs ++ List.map (encC s.r) s.xs) wr)) :: (j, none) :: encH s.os) ++ hkill d st.h⟩)
              (hT.el _ _ he) (hs.is hx (by intro e; cases e)) (by rw [hs.is rfl g3, hw]; exact g1) (by rw [hw]; exact hjk) q3 h0 (by simp only [List.length_map]; exact b2) (by simp only [List.length_map]; exact b1) (by omega) (by rw [hkill_os d g2]; rfl)
            have h3 := SS.fresh hf.t hf.h this
            rw [hw, ← List.map_append] at h3
            exact h3
          · cases h2
        · cases h2
      · cases h2
    · cases h
  · cases h
theorem lendAs_cons {h h1 h2 : Hp} {c c1 : AV} {cs cs1 : List AV} (a : lendA h c = some (h1, c1)) (b : lendAs h1 cs = some (h2, cs1)) : lendAs h (c :: cs) = some (h2, c1 :: cs1) := by
  simp only [lendAs, a, b]
theorem partsL_ok {r : Sc} : ∀ {ps : List (Nat × Operand)} {j : Nat} {vs : List r.Val} {os : EHp} {us us' : List Nat} {st : St} {h : Hp}, partsL ev hg r j ps = some (vs, os, us) → Sk ev st → HC hg us' h → (∀ k, us.contains k = true → us'.contains k = true) →
    ∃ as qs, lendAs h (ps.map fun p => st.ev p.2) = some (encH os ++ h, as) ∧ partsB (ps.map (·.1)) as = some qs ∧ OsOk hg os ∧ qs.length = vs.length ∧ WkR (qs.map (·.2)) (List.map (encC r) vs) ∧ (∀ q ∈ qs, q.2.all AV.one = true) ∧ ∀ i q, qs[i]? = some q → q.1 = j + i
  | [], j, vs, os, us, us', st, h, hp, hs, hh, hu => by
    simp only [partsL, Option.some.injEq, Prod.mk.injEq] at hp
    obtain ⟨rfl, rfl, rfl⟩ := hp
    exact ⟨[], [], rfl, rfl, fun k o hm => (by cases hm), rfl, .nil, fun q hq => (by cases hq), fun i q hq => (by simp at hq)⟩
  | (i, x) :: ps, j, vs, os, us, us', st, h, hp, hs, hh, hu => by
    simp only [partsL] at hp
    obtain ⟨hi, hp⟩ := cond_none hp
    have hi := Nat.eq_of_beq_eq_true hi
    split at hp
    · rename_i v os1 us1 hv
      split at hp
      · rename_i vs2 os2 us2 hp2
        simp only [Option.some.injEq, Prod.mk.injEq] at hp
        obtain ⟨rfl, rfl, rfl⟩ := hp
        obtain ⟨⟨c1, xs, g1, g2, g3, g4⟩, g5⟩ := lendV_cells hv hh (fun k hk => hu k (by simp at hk ⊢; exact .inl hk))
        obtain ⟨as, qs, q1, q2, q3, q4, q5, q6, q7⟩ := partsL_ok (st := st) hp2 hs (hh.put g5 fun k h => h) (fun k hk => hu k (by simp at hk ⊢; exact .inr hk))
        have hx : st.ev x = enc (evx ev x) := hs.is rfl (fun e => by
          rw [e] at hv
          cases r <;> simp [lendV, lendS, asS] at hv)
        refine ⟨c1 :: as, (i, xs) :: qs, ?_, ?_, fun k o hm => ?_, by simp [q4], .cons g3 q5, ?_, ?_⟩
        · rw [List.map_cons, encH_append, List.append_assoc]
          exact lendAs_cons (by rw [hx]; exact g1) q1
        · simp only [List.map_cons, partsB, g2, q2]
        · rcases List.mem_append.1 hm with hm | hm
          · exact q3 k o hm
          · exact g5 k o hm
        · intro q hq
          rcases List.mem_cons.1 hq with rfl | hq
          · exact g4
          · exact q6 q hq
        · intro i' q hq
          cases i' with
          | zero => simp at hq; subst hq; simpa using hi
          | succ i' =>
            have := q7 i' q (by simpa using hq)
            omega
      · cases hp
    · cases hp
theorem fillA_seq {sz : Nat} : ∀ (qs : List (Nat × List AV)) (pre : List AV) (j : Nat), pre.length = j * sz → (∀ i q, qs[i]? = some q → q.1 = j + i ∧ q.2.length = sz) →
    fillA (fun i => some (i * sz, sz)) (pre ++ List.replicate (qs.length * sz) .un) qs = some (pre ++ (qs.map (·.2)).flatten)
  | [], pre, j, hp, hq => by simp [fillA]
  | (i, xs) :: qs, pre, j, hp, hq => by
    obtain ⟨h1, h2⟩ := hq 0 (i, xs) rfl
    simp only [Nat.add_zero] at h1
    subst h1
    have hrep : List.replicate ((qs.length + 1) * sz) AV.un = List.replicate sz .un ++ List.replicate (qs.length * sz) .un := by
      rw [List.replicate_append_replicate]
      congr 1
      rw [Nat.add_mul]; omega
    have hset : setCells (pre ++ List.replicate ((qs.length + 1) * sz) AV.un) (i * sz) xs = (pre ++ xs) ++ List.replicate (qs.length * sz) .un := by
      rw [hrep, setCells_append_right _ _ _ _ (by omega), hp, Nat.sub_self, setCells_append_left _ _ _ _ (by simp only [List.length_replicate]; simp only at h2; omega), setCells_all _ _ (by simp only [List.length_replicate]; simp only at h2; omega), List.append_assoc]
    simp only [List.length_cons, fillA]
    rw [if_pos ⟨h2, by simp only [List.length_append, List.length_replicate, hp, Nat.add_mul]; omega⟩, hset]
    have := fillA_seq (sz := sz) qs (pre ++ xs) (i + 1) (by simp only at h2; simp only [List.length_append, hp, h2, Nat.add_mul]; omega) (fun i' q hq' => by
      have := hq (i' + 1) q (by simpa using hq')
      exact ⟨by omega, this.2⟩)
    rw [this]
    simp
theorem chunk_flat {sz : Nat} : ∀ (rows : List (List AV)), (∀ r ∈ rows, r.length = sz) → chunk sz rows.length rows.flatten = rows
  | [], _ => rfl
  | r :: rows, h => by
    have hr := h r (by simp)
    simp only [List.length_cons, chunk, List.flatten_cons]
    rw [List.take_left' hr, List.drop_left' hr, chunk_flat rows fun x hx => h x (by simp [hx])]
theorem exLit_ok (hT : TOk P T) {t : TypeId} {len : Nat} {parts : Array (Nat × Operand)} {R : Type} {k : EV → EHp → List Nat → Fr → Option R} {r : R} (hd : d < n) (h : exLit T ev hg d t len parts.toList k = some r) :
    ∃ c os us fr, FS P ⟨some d, .buildSlice t len parts, ty, pos, af, gd⟩ n ev hg c os us fr ∧ k c os us fr = some r := by
  unfold exLit at h
  split at h
  · split at h
    · rename_i hp
      split at h
      · rename_i e sz b z he
        obtain ⟨h1, h2⟩ := cond_none h
        refine ⟨_, _, _, _, fun st hn hs hH hf => ?_, h2⟩
        have h0 : 0 < sz := Nat.le_of_ble_eq_true h1
        have := SS.buildSlice (P := P) (t := t) (len := 0) (parts := parts) (ty := ty) (pos := pos) (af := af) (gd := gd) (d := d) (h' := st.h) (as := []) (qs := []) (cs := []) (K := fun s' => s' = ⟨st.n, (d, .sl true sz []) :: st.t, st.h⟩) (hT.el _ _ he) (by rw [hp]; rfl) (by rw [hp]; rfl) (by simp [fillA]) rfl (by simp) h0 (by omega) rfl
        exact this.eq_mono (SLe.wkT Wk.empty')
      · cases h
    · cases h
  · rename_i m
    split at h
    · rename_i e sz b z he
      split at h
      · rename_i rc hco
        split at h
        · rename_i vs os us hv
          obtain ⟨h1, h2⟩ := cond_none h
          simp only [Bool.and_eq_true] at h1
          obtain ⟨⟨⟨a1, a2⟩, a3⟩, a4⟩ := h1
          have a1 := Nat.eq_of_beq_eq_true a1
          have a2 := Nat.eq_of_beq_eq_true a2
          have a3 := Nat.le_of_ble_eq_true a3
          have a4 : 0 < sz := Nat.le_of_ble_eq_true a4
          refine ⟨_, _, _, _, fun st hn hs hH hf => ?_, h2⟩
          obtain ⟨as, qs, q1, q2, q3, q4, q5, q6, q7⟩ := partsL_ok (st := st) hv hs hH.hc fun _ h => h
          have hwid : ∀ q ∈ qs, q.2.length = sz := fun q hq => by
            obtain ⟨i, hi, rfl⟩ := List.getElem_of_mem hq
            have hf := q5.flat
            have : ∀ (a c : List (List AV)), WkR a c → (∀ x ∈ c, x.length = sz) → ∀ x ∈ a, x.length = sz := by
              intro a c hac
              induction hac with
              | nil => simp
              | cons h hs ih =>
                intro hc x hx
                rcases List.mem_cons.1 hx with rfl | hx
                · rw [← h.len]; exact hc _ (by simp)
                · exact ih (fun y hy => hc y (by simp [hy])) x hx
            exact this _ _ q5 (fun x hx => by obtain ⟨y, _, rfl⟩ := List.mem_map.1 hx; rw [encC_len, a1]) _ (List.mem_map.2 ⟨_, List.getElem_mem hi, rfl⟩)
          have hfill := fillA_seq (sz := sz) qs [] 0 (by simp) (fun i q hq => ⟨q7 i q hq, hwid q (List.mem_of_getElem? hq)⟩)
          simp only [List.nil_append] at hfill
          have hql : qs.length = m + 1 := by rw [q4, a2]
          rw [hql] at hfill
          have hch : chunk sz (m + 1) (qs.map (·.2)).flatten = qs.map (·.2) := by
            have := chunk_flat (sz := sz) (qs.map (·.2)) (fun x hx => by obtain ⟨q, hq, rfl⟩ := List.mem_map.1 hx; exact hwid q hq)
            rw [List.length_map, hql] at this
            exact this
          have := SS.buildSliceOw (P := P) (t := t) (len := m + 1) (parts := parts) (ty := ty) (pos := pos) (af := af) (gd := gd) (d := d) (h' := encH os ++ st.h) (as := as) (qs := qs) (cs := (qs.map (·.2)).flatten) (K := fun s' => s' = ⟨st.n, tput (some d) (.ow d) (tkill d st.t), ((d, some (.arr e sz (qs.map (·.2)) true)) :: encH os) ++ hkill d st.h⟩) (hT.el _ _ he) q1 q2 hfill (by
              rw [List.all_eq_true]
              intro x hx
              obtain ⟨l, hl, hx⟩ := List.mem_flatten.1 hx
              obtain ⟨q, hq, rfl⟩ := List.mem_map.1 hl
              exact List.all_eq_true.1 (q6 q hq) x hx) a3 a4 (by omega) (by rw [hch, hkill_os d q3]; rfl)
          refine (SS.fresh hf.t hf.h this).eq_mono ?_
          subst a1
          exact SLe.wkRow (h := encH os ++ st.h) (rows' := List.map (encC rc) vs) q5 (enc_rows_one rc _)
        · cases h
      · cases h
    · cases h
theorem exLitT_ok (hT : TOk P T) {t : TypeId} {len : Nat} {parts : Array (Nat × Operand)} {R : Type} {k : EV → EHp → List Nat → Fr → Option R} {r : R} (hd : d < n) (h : exLitT T ev hg d t len parts.toList k = some r) :
    ∃ c os us fr, FS P ⟨some d, .buildSlice t len parts, ty, pos, af, gd⟩ n ev hg c os us fr ∧ k c os us fr = some r := by
  unfold exLitT at h
  split at h
  · cases h
  · rename_i m
    split at h
    · rename_i e sz b z he
      split at h
      · rename_i rc hco
        split at h
        · rename_i vs os us hv
          obtain ⟨h1, h2⟩ := cond_none h
          simp only [Bool.and_eq_true] at h1
          obtain ⟨⟨⟨a1, a2⟩, a3⟩, a4⟩ := h1
          have a1 := Nat.eq_of_beq_eq_true a1
          have a2 := Nat.eq_of_beq_eq_true a2
          have a3 := Nat.le_of_ble_eq_true a3
          have a4 : 0 < sz := Nat.le_of_ble_eq_true a4
          refine ⟨_, _, _, _, fun st hn hs hH hf => ?_, h2⟩
          obtain ⟨as, qs, q1, q2, q3, q4, q5, q6, q7⟩ := partsL_ok (st := st) hv hs hH.hc fun _ h => h
          have hwid : ∀ q ∈ qs, q.2.length = sz := fun q hq => by
            obtain ⟨i, hi, rfl⟩ := List.getElem_of_mem hq
            have hf := q5.flat
            have : ∀ (a c : List (List AV)), WkR a c → (∀ x ∈ c, x.length = sz) → ∀ x ∈ a, x.length = sz := by
              intro a c hac
              induction hac with
              | nil => simp
              | cons h hs ih =>
                intro hc x hx
                rcases List.mem_cons.1 hx with rfl | hx
                · rw [← h.len]; exact hc _ (by simp)
                · exact ih (fun y hy => hc y (by simp [hy])) x hx
            exact this _ _ q5 (fun x hx => by obtain ⟨y, _, rfl⟩ := List.mem_map.1 hx; rw [encC_len, a1]) _ (List.mem_map.2 ⟨_, List.getElem_mem hi, rfl⟩)
          have hfill := fillA_seq (sz := sz) qs [] 0 (by simp) (fun i q hq => ⟨q7 i q hq, hwid q (List.mem_of_getElem? hq)⟩)
          simp only [List.nil_append] at hfill
          have hql : qs.length = m + 1 := by rw [q4, a2]
          rw [hql] at hfill
          have hch : chunk sz (m + 1) (qs.map (·.2)).flatten = qs.map (·.2) := by
            have := chunk_flat (sz := sz) (qs.map (·.2)) (fun x hx => by obtain ⟨q, hq, rfl⟩ := List.mem_map.1 hx; exact hwid q hq)
            rw [List.length_map, hql] at this
            exact this
          have := SS.buildSlice (P := P) (t := t) (len := m + 1) (parts := parts) (ty := ty) (pos := pos) (af := af) (gd := gd) (d := d) (h' := encH os ++ st.h) (as := as) (qs := qs) (cs := (qs.map (·.2)).flatten) (K := fun s' => s' = ⟨st.n, (d, .sl true sz (qs.map (·.2))) :: st.t, encH os ++ st.h⟩) (hT.el _ _ he) q1 q2 hfill (by
              rw [List.all_eq_true]
              intro x hx
              obtain ⟨l, hl, hx⟩ := List.mem_flatten.1 hx
              obtain ⟨q, hq, rfl⟩ := List.mem_map.1 hl
              exact List.all_eq_true.1 (q6 q hq) x hx) a3 a4 (by omega) (by rw [hch])
          refine this.eq_mono (SLe.wkT ?_)
          rw [a1]
          exact Wk.rows q5 (enc_rows_one rc vs)
        · cases h
      · cases h
    · cases h
theorem exM_ok (hT : TOk P T) {op : Op} {R : Type} {k : EV → EHp → List Nat → Fr → Option R} {r : R} (hd : d < n) (h : exM T ev hg d op k = some r) :
    ∃ c os us fr, FS P ⟨some d, op, ty, pos, af, gd⟩ n ev hg c os us fr ∧ k c os us fr = some r := by
  unfold exM at h
  split at h
  · split at h
    · rename_i cs hc
      obtain ⟨h1, h2⟩ := cond_none h
      simp only [Bool.and_eq_true] at h1
      exact ⟨_, _, _, _, FS.box (ne_itT h1.1) hd hc h1.2, h2⟩
    · cases h
  · obtain ⟨hti, h⟩ := cond_none h
    have hti := ne_itT hti
    split at h
    · rename_i z hz
      split at h
      · rename_i m e sz har
        rcases cond_some h with ⟨_, h⟩ | ⟨_, h⟩
        · exact ⟨_, _, _, _, FS.alloc hT hti hd hz, h⟩
        · split at h
          · rename_i rc hrc
            obtain ⟨h1, h2⟩ := cond_none h
            simp only [Bool.and_eq_true] at h1
            exact ⟨_, _, _, _, FS.allocArr hT hd hz (Nat.eq_of_beq_eq_true h1.1.1) h1.1.2 (Nat.le_of_ble_eq_true h1.2), h2⟩
          · cases h
      · exact ⟨_, _, _, _, FS.alloc hT hti hd hz, h⟩
    · cases h
  · split at h
    · rename_i e sz b z he
      split at h
      · rename_i rc hc
        obtain ⟨h1, h2⟩ := cond_none h
        clear h
        simp only [Bool.and_eq_true] at h1
        obtain ⟨⟨a1, a2⟩, a3⟩ := h1
        split at h2
        · rename_i hz
          split at h2
          · rename_i a ha
            split at h2
            · rename_i c hc
              obtain ⟨m, hm, hk⟩ := obind_some h2
              have := sameOp_ok a3 ha hc
              subst this
              exact ⟨_, _, _, _, FS.make hT hd he (Nat.eq_of_beq_eq_true a1) (Nat.le_of_ble_eq_true a2) hz ha hc hm, hk⟩
            · cases h2
          · cases h2
        · cases h2
      · cases h
    · cases h
  · split at h
    · rename_i td z hm
      split at h
      · rename_i kc vc hkv
        obtain ⟨h1, h2⟩ := cond_none h
        exact ⟨_, _, _, _, FS.makeMap hT hd hm, h2⟩
      · cases h
    · cases h
  · split at h
    · rename_i j o hx
      obtain ⟨c, us, h1, h2⟩ := exWin_ok hT hx h
      exact ⟨c, _, us, _, FS.read h1 hd, h2⟩
    · obtain ⟨c, os, us, h1, h2⟩ := exSlice_ok hT hd h
      exact ⟨c, os, us, _, h1, h2⟩
  · obtain ⟨c, os, us, fr, h1, h2⟩ := exLit_ok hT hd h
    exact ⟨c, os, us, _, h1, h2⟩
  · obtain ⟨h1, h2⟩ := cond_none h
    have := Nat.eq_of_beq_eq_true h1
    subst this
    exact exAppend_ok hT hd h2
  · cases h
theorem WkR.set {a : List (List AV)} {x y : List AV} (i : Nat) (h : WkL x y) : WkR (a.set i x) (a.set i y) := by
  induction a generalizing i with
  | nil => exact .nil
  | cons r a ih =>
    cases i with
    | zero => exact .cons h (WkR.refl a)
    | succ i => exact .cons (WkL.refl r) (ih i)
theorem lendS_us {hg : Nat → Option EOb} {c : EV} {s : Sc} {x : s.Val} {os : EHp} {us : List Nat} (h : lendS hg s c = some (x, os, us)) : ∀ p ∈ os, us.contains p.1 = true := by
  unfold lendS at h
  split at h
  · split at h
    · split at h
      · simp only [Option.some.injEq, Prod.mk.injEq] at h
        obtain ⟨_, rfl, rfl⟩ := h
        intro p hp
        simp at hp
        simp [hp]
      · cases h
    · cases h
  · split at h
    · simp only [Option.some.injEq, Prod.mk.injEq] at h
      obtain ⟨_, rfl, rfl⟩ := h
      intro p hp; cases hp
    · cases h
theorem lendJ_us {hg : Nat → Option EOb} : ∀ (s : Sc) {cs rest : List EV} {x : s.Val} {os : EHp} {us : List Nat}, lendJ hg s cs = some (x, rest, os, us) → ∀ p ∈ os, us.contains p.1 = true
  | .pr a c, cs, rest, x, os, us, h => by
    simp only [lendJ] at h
    split at h
    · rename_i ha
      split at h
      · rename_i hb
        simp only [Option.some.injEq, Prod.mk.injEq] at h
        obtain ⟨_, _, rfl, rfl⟩ := h
        intro p hp
        simp only [List.contains_eq_mem, List.mem_append, decide_eq_true_eq]
        rcases List.mem_append.1 hp with hp | hp
        · have := lendJ_us c hb p hp; simp at this; exact .inr this
        · have := lendJ_us a ha p hp; simp at this; exact .inl this
      · cases h
    · cases h
  | .u, cs, rest, x, os, us, h => by
    simp only [lendJ, Option.some.injEq, Prod.mk.injEq] at h
    obtain ⟨_, _, rfl, rfl⟩ := h
    intro p hp; cases hp
  | .i k, [], rest, x, os, us, h => by simp [lendJ] at h
  | .b, [], rest, x, os, us, h => by simp [lendJ] at h
  | .sl r, [], rest, x, os, us, h => by simp [lendJ] at h
  | .i k, c :: cs, rest, x, os, us, h => by
    simp only [lendJ] at h
    split at h
    · rename_i ha
      simp only [Option.some.injEq, Prod.mk.injEq] at h
      obtain ⟨_, _, rfl, rfl⟩ := h
      exact lendS_us ha
    · cases h
  | .b, c :: cs, rest, x, os, us, h => by
    simp only [lendJ] at h
    split at h
    · rename_i ha
      simp only [Option.some.injEq, Prod.mk.injEq] at h
      obtain ⟨_, _, rfl, rfl⟩ := h
      exact lendS_us ha
    · cases h
  | .sl r, c :: cs, rest, x, os, us, h => by
    simp only [lendJ] at h
    split at h
    · rename_i ha
      simp only [Option.some.injEq, Prod.mk.injEq] at h
      obtain ⟨_, _, rfl, rfl⟩ := h
      exact lendS_us ha
    · cases h
theorem lendV_us {hg : Nat → Option EOb} {c : EV} {s : Sc} {x : s.Val} {os : EHp} {us : List Nat} (h : lendV hg s c = some (x, os, us)) : ∀ p ∈ os, us.contains p.1 = true := by
  unfold lendV at h
  split at h
  · split at h
    · split at h
      · rename_i hj
        simp only [Option.some.injEq, Prod.mk.injEq] at h
        obtain ⟨_, rfl, rfl⟩ := h
        exact lendJ_us _ hj
      · cases h
    · split at h
      · rename_i hj
        simp only [Option.some.injEq, Prod.mk.injEq] at h
        obtain ⟨_, rfl, rfl⟩ := h
        exact lendJ_us _ hj
      · cases h
    · cases h
  · split at h
    · cases h
    · cases h
    · exact lendS_us h
    · exact lendS_us h
    · exact lendS_us h
theorem putC_us {hg : Nat → Option EOb} {c : EV} : ∀ (r : Sc) (x : r.Val) (o m : Nat) (y : r.Val) (os : EHp) (us : List Nat), putC hg c r x o m = some (y, os, us) → ∀ p ∈ os, us.contains p.1 = true := by
  intro r
  induction r with
  | pr a b2 iha ihb =>
    intro x o m y os us h
    simp only [putC] at h
    rcases cond_some h with ⟨_, h⟩ | ⟨_, h⟩
    · exact lendV_us h
    · rcases cond_some h with ⟨_, h⟩ | ⟨_, h⟩
      · split at h
        · rename_i hy
          simp only [Option.some.injEq, Prod.mk.injEq] at h
          obtain ⟨_, rfl, rfl⟩ := h
          exact iha _ _ _ _ _ _ hy
        · cases h
      · split at h
        · rename_i hy
          simp only [Option.some.injEq, Prod.mk.injEq] at h
          obtain ⟨_, rfl, rfl⟩ := h
          exact ihb _ _ _ _ _ _ hy
        · cases h
  | u => intro x o m y os us h; simp [putC] at h
  | _ =>
    intro x o m y os us h
    simp only [putC] at h
    obtain ⟨_, h⟩ := cond_none h
    exact lendV_us h
theorem exStore_ok (hT : TOk P T) {t : TypeId} {x y : Operand} {R : Type} {k : EHp → List Nat → Option R} {r : R} (h : exStore T ev hg t x y k = some r) :
    ∃ os us, FS P ⟨none, .store t x y, ty, pos, af, gd⟩ n ev hg .un os us .no ∧ k os us = some r := by
  unfold exStore at h
  split at h
  · rename_i ag m ht
    split at h
    · rename_i j o hx
      split at h
      · rename_i bt cs hj
        split at h
        · rename_i xs hxs
          obtain ⟨h1, h2⟩ := cond_none h
          simp only [Bool.and_eq_true] at h1
          obtain ⟨⟨⟨⟨⟨a0, a1⟩, a2⟩, a3⟩, a4⟩, a5⟩ := h1
          refine ⟨_, _, fun st hn hs hH hf => ?_, h2⟩
          have hy : st.ev y = enc (evx ev y) := hs.is rfl (fun e => by rw [e] at hxs; simp [cellsE, enc, AV.one] at hxs)
          have hc := cellsE_ok hxs
          rw [← hy] at hc
          refine SS.storeBox (ne_itT a0) (hs.is hx (by intro e; cases e)) (hH.at (by simp) hj) (hT.ty _ _ ht) hc (by rw [encL_length]; exact Nat.eq_of_beq_eq_true a1) a3 (by rw [hy]; exact owE_ok a4 hH (fun k hk => by simp at hk ⊢; exact .inr (.inl hk))) ?_ (by rw [encL_length]; exact Nat.le_of_ble_eq_true a2) ?_
          · rw [List.all_eq_true]
            intro c hc'
            rw [encL_map] at hc'
            obtain ⟨c0, hc0, rfl⟩ := List.mem_map.1 hc'
            refine owE_ok (List.all_eq_true.1 a5 c0 hc0) hH fun k hk => ?_
            simp only [List.contains_eq_mem, List.mem_cons, List.mem_append, List.mem_flatMap, decide_eq_true_eq] at hk ⊢
            exact .inr ⟨c0, hc0, hk⟩
          · simp only [encH, Option.map, encO, setCellsE_ok]; rfl
        · cases h
      · cases h
    · rename_i j i sz o hx
      split at h
      · rename_i bt r' xs hj
        obtain ⟨h1, h2⟩ := cond_none h
        have a1 := Nat.eq_of_beq_eq_true h1
        obtain ⟨a, ha, hk⟩ := obind_some h2
        obtain ⟨i0, ha⟩ := nthI_some ha
        split at hk
        · rename_i a' os us hp
          rcases cond_some hk with ⟨_, hk⟩ | ⟨hnc, hk⟩
          · cases hk
          refine ⟨_, _, fun st hn hs hH hf => ?_, hk⟩
          have hus : ∀ k, us.contains k = true → (j :: us).contains k = true := fun k hk => by simp at hk ⊢; exact .inr hk
          obtain ⟨⟨c1, cs, g1, g2, g3, g4, g5, g6⟩, g7⟩ := putC_ok hH.hc r' a o m hp hus
          have hy : st.ev y = enc (evx ev y) := hs.is rfl (fun e => by
            rw [e] at g1
            have hnp : ∀ (r : Sc) (x : r.Val) (o m : Nat), putC hg .un r x o m = none := by
              intro r
              induction r with
              | pr a b2 iha ihb =>
                intro x o m
                simp only [putC, iha, ihb, lendV, Bool.cond_self]
              | _ => intro x o m; simp [putC, lendV, lendS, asS]
            rw [e, hnp] at hp; cases hp)
          have hjk : hget (encH os ++ st.h) j = some (.arr bt r'.w (List.map (encC r') xs) true) := by
            have hb := (hH.hc.put g7 fun k h => h) j (by simp) _ _ _ _ hj
            rw [hget_append, any_enc]
            cases hany : os.any (fun p => p.1 == j) with
            | false => exact hH.at (by simp) hj
            | true =>
              exfalso
              obtain ⟨p, hp1, hp2⟩ := List.any_eq_true.1 hany
              have key : ∀ (r : Sc) (x : r.Val) (o m : Nat) (y' : r.Val) (os : EHp) (us : List Nat), putC hg (evx ev y) r x o m = some (y', os, us) → ∀ p ∈ os, us.contains p.1 = true := putC_us
              have := key _ _ _ _ _ _ _ hp p hp1
              rw [show p.1 = j by simpa using hp2] at this
              rw [this] at hnc; cases hnc
          have hrow : (List.map (encC r') xs)[i.toNat]? = some (encC r' a) := by rw [List.getElem?_map, ha]; rfl
          subst a1
          have := SS.storeRow (P := P) (t := t) (x := x) (y := y) (ty := ty) (pos := pos) (af := af) (gd := gd) (K := fun s' => s' = ⟨st.n, st.t, (j, some (.arr bt r'.w ((List.map (encC r') xs).set i.toNat (setCells (encC r' a) o cs)) true)) :: (encH os ++ st.h)⟩)
            (hs.is hx (by intro e; cases e)) (by rw [hy]; exact g1) hjk hrow (hT.ty _ _ ht) g2 g4 g3 g5 rfl
          refine this.eq_mono ?_
          refine SLe.wkRow (h := encH os ++ st.h) ?_ (enc_rows_one r' _)
          rw [List.map_set]
          exact WkR.set _ g6
        · cases hk
      · rename_i bt r' xs ho hj
        obtain ⟨h1, h2⟩ := cond_none h
        simp only [Bool.and_eq_true] at h1
        have a1 := Nat.eq_of_beq_eq_true h1.1.1
        have a2 := Nat.eq_of_beq_eq_true h1.1.2
        have a3 := Nat.eq_of_beq_eq_true h1.2
        subst a1
        subst a2
        subst a3
        split at h2
        · rename_i p hy
          split at h2
          · rename_i t2 r2 ys wr2 hp
            obtain ⟨hho, h3⟩ := cond_none h2
            obtain ⟨a, ha, hk⟩ := obind_some h3
            obtain ⟨i0, ha⟩ := nthI_some ha
            refine ⟨_, _, fun st hn hs hH hf => ?_, hk⟩
            have hp' : hget st.h p = some (encO (.arr t2 r2 ys wr2)) := hH.at (by simp) hp
            have hlt : i.toNat < xs.length := (List.getElem?_eq_some_iff.1 ha).1
            have hys : st.ev y = .ow p := hs.is hy (by intro e; cases e)
            have hlen : (nrC r' xs ho).length = xs.length := by
              unfold nrC; split <;> simp
            refine SS.storeNr (hs.is hx (by intro e; cases e)) (hH.at (by simp) hj) (hT.ty _ _ ht) (by rw [hys]; rfl) rfl (by rw [hys]; simp only [owOk, hp', encO]) (by simp only [owOk, hp', encO]) (by rw [hlen]; exact hlt) ?_
            have : (nrC r' xs ho).set i.toNat (.ow p) = nrC r' xs (some (i, some p)) := by
              unfold holeOk at hho
              cases ho with
              | none => rfl
              | some q =>
                obtain ⟨i1, q⟩ := q
                have : i.toNat = i1.toNat := of_decide_eq_true hho
                simp only [nrC, ← this, List.set_set, nrH]
            simp only [encH, Option.map, encO, this]; rfl
          · cases h2
        · cases h2
      · cases h
    · cases h
  · cases h
theorem exMapPut_ok (hT : TOk P T) {t : TypeId} {x y v : Operand} {R : Type} {k : EHp → List Nat → Option R} {r : R} (h : exMapPut T ev hg t x y v k = some r) :
    ∃ os us, FS P ⟨none, .mapUpdate t x y v, ty, pos, af, gd⟩ n ev hg .un os us .no ∧ k os us = some r := by
  unfold exMapPut at h
  split at h
  · rename_i j hx
    split at h
    · rename_i dd kc vc es hj
      split at h
      · rename_i td z ht
        split at h
        · rename_i a ha
          split at h
          · rename_i b hb
            obtain ⟨h1, h2⟩ := cond_none h
            simp only [Bool.and_eq_true] at h1
            have hdd := keyOk_eq h1.1 h1.2
            subst hdd
            obtain ⟨k1, k2⟩ := keyOk_ok h1.1 a
            refine ⟨_, _, fun st hn hs hH hf => ?_, h2⟩
            have ev1 : enc (evx ev v) = enc (valE vc b) := by rcases valX_ok hb with h | h <;> exact h.1
            have hv : st.ev v = enc (evx ev v) := hs.is rfl (fun e => by rw [e] at hb; cases vc <;> simp [valX] at hb)
            have hy : st.ev y = enc (evx ev y) := hs.is rfl (fun e => by rw [e] at ha; cases kc <;> simp [keyE, asS] at ha)
            refine SS.mapUpdate (hT.mp _ _ ht) (hs.is hx (by intro e; cases e)) (h1 := st.h) (c := enc (valE vc b)) (by rw [hv, ev1]; exact lendA_valE vc b) (hH.at (by simp) hj) (by rw [hy]; exact keyE_ok h1.1 ha) k1 ?_
            simp only [encH, Option.map, encO]
            rw [aput_enc k2]
            rfl
          · cases h
        · cases h
      · cases h
    · cases h
  · cases h
end
end
end Go.Proofs.Ytggnolfcgaglfaa
