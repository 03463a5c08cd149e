/- Operations that only read, reckoned. -/
import Derived.Test.YtggnolfcgaglfaaExB
set_option linter.unusedVariables false
set_option linter.unusedSimpArgs false
namespace Go.Proofs.Ytggnolfcgaglfaa
open Go Go.RowKit
noncomputable section

/-- what is asked of a type -/
structure TInfo where
  ty : Option (Bool × Nat) := none
  el : Option (TypeId × Nat × Nat × List Value) := none
  slT : Bool := false
  bo : Bool := false
  ar : Option (Nat × TypeId × Nat) := none
  fd : List (Nat × Bool × Nat) := []
  pl : Option (List Value × List (Nat × Nat)) := none
  ze : Option (List Value) := none
  mp : Option (TypeDesc × Value) := none
  co : Option Sc := none
  kv : Option (Sc × Sc) := none
  ik : Option IntKind := none
  eq : Option Sc := none
/-- values of a type are held against each other cell by cell -/
def EqOk (P : Program) (t : TypeId) (s : Sc) : Prop := s.key = true ∧ ∀ (x y : s.Val) (w : World), (Op.equal t (.agg (keyVs s x).toArray) (.agg (keyVs s y).toArray)).run P w = .ok (eqV s x y) w ∧
  ∀ op a b, (eqGuard op t a b (.agg (keyVs s x).toArray) (.agg (keyVs s y).toArray)).run P w = .ok () w
structure TOk (P : Program) (T : TypeId → TInfo) : Prop where
  ty : ∀ t x, (T t).ty = some x → tyA P t = some x
  el : ∀ t x, (T t).el = some x → elA P t = some x
  slT : ∀ t, (T t).slT = true → slT P t = true
  bo : ∀ t, (T t).bo = true → P.underlying t = some .bool
  ar : ∀ t x, (T t).ar = some x → arA P t = some x
  fd : ∀ t f x, (T t).fd[f]? = some x → fdA P t f = some x
  pl : ∀ t z l, (T t).pl = some (z, l) → ∃ f, plA P t = some (z, f) ∧ ∀ (i : Nat) p, l[i]? = some p → f i = some p
  ze : ∀ t x, (T t).ze = some x → zeroA P t = some x
  mp : ∀ t x, (T t).mp = some x → mapA P t = some x
  ik : ∀ t k, (T t).ik = some k → P.underlying t = some (.int k)
  eq : ∀ t s, (T t).eq = some s → EqOk P t s

def obind {α β : Type} (o : Option α) (f : α → Option β) : Option β := match o with
  | some x => f x
  | none => none
theorem obind_some {α β : Type} {o : Option α} {f : α → Option β} {y : β} (h : obind o f = some y) : ∃ x, o = some x ∧ f x = some y := by
  cases o with
  | none => cases h
  | some x => exact ⟨x, rfl, h⟩
theorem cond_some {α : Type} {b : Bool} {x y : Option α} {r : α} (h : cond b x y = some r) : (b = true ∧ x = some r) ∨ (b = false ∧ y = some r) := by
  cases b with
  | true => exact .inl ⟨rfl, h⟩
  | false => exact .inr ⟨rfl, h⟩
theorem cond_none {α : Type} {b : Bool} {x : Option α} {r : α} (h : cond b x none = some r) : b = true ∧ x = some r := by
  cases b with
  | true => exact ⟨rfl, h⟩
  | false => cases h

def cvE : Value → EV
  | .int k x => .sc (.i k) x
  | .bool x => .sc .b x
  | .slice none 0 0 => .nil
  | x => .v x
theorem enc_cvE (v : Value) : enc (cvE v) = cvA v := by
  unfold cvE
  split
  · rfl
  · rfl
  · rfl
  · rename_i h1 h2 h3
    unfold cvA
    split
    · exact absurd rfl (h3)
    · rfl
theorem encL_cvE (z : List Value) : encL (z.map cvE) = z.map cvA := by
  rw [encL_map, List.map_map]
  exact List.map_congr_left fun v _ => enc_cvE v
def evx (ev : Nat → EV) : Operand → EV
  | .tmp i => ev i
  | .const v => cvE v
  | .global _ => .un
  | .func f => .v (.func (.func f) #[] #[])
/-- the slots are what they are reckoned to be -/
def Sk (ev : Nat → EV) (st : St) : Prop := ∀ i, ev i = .un ∨ tget st.t i = enc (ev i)
theorem Sk.x {ev : Nat → EV} {st : St} (h : Sk ev st) (x : Operand) : evx ev x = .un ∨ st.ev x = enc (evx ev x) := by
  cases x with
  | tmp i => exact h i
  | const v => exact .inr (enc_cvE v).symm
  | global g => exact .inl rfl
  | func f => exact .inr rfl
theorem Sk.is {ev : Nat → EV} {st : St} (h : Sk ev st) {x : Operand} {c : EV} (hx : evx ev x = c) (hc : c ≠ .un) : st.ev x = enc c := by
  rcases h.x x with h | h
  · exact absurd (hx.symm.trans h) hc
  · rw [h, hx]
/-- the objects that are looked at are what they are reckoned to be -/
def Hk (hg : Nat → Option EOb) (us : List Nat) (st : St) : Prop := ∀ k, us.contains k = true → hget st.h k = (hg k).map encO
theorem Hk.at {hg : Nat → Option EOb} {us : List Nat} {st : St} (h : Hk hg us st) {k : Nat} (hk : us.contains k = true) {o : EOb} (ho : hg k = some o) : hget st.h k = some (encO o) := by rw [h k hk, ho]; rfl
theorem Hk.hc {hg : Nat → Option EOb} {us : List Nat} {st : St} (h : Hk hg us st) : HC hg us st.h := fun k hk t r xs wr ho => ⟨wr, h.at hk ho⟩
inductive Fr where
  | no
  | one (d : Nat)
  | blk (B : Nat)
def Fr.p : Fr → Nat → Bool
  | .no => ffB
  | .one d => fun k => k == d
  | .blk B => inB B
structure Fresh (fr : Fr) (st : St) : Prop where
  t : ∀ x, (tget st.t x).nom fr.p = true
  h : ∀ k ob, hget st.h k = some ob → ob.nom fr.p = true
  k : ∀ k, fr.p k = true → hget st.h k = none
/-- WHAT AN OPERATION DOES: its result, what becomes of objects, which it looks at, which names are new -/
def FS (P : Program) (o : Oper) (n : Nat) (ev : Nat → EV) (hg : Nat → Option EOb) (c : EV) (os : EHp) (us : List Nat) (fr : Fr) : Prop :=
  ∀ st : St, st.n = n → Sk ev st → Hk hg us st → Fresh fr st → SS P o st fun s => s = ⟨st.n, tput o.dst (enc c) st.t, encH os ++ st.h⟩
def RSE (P : Program) (op : Op) (ev : Nat → EV) (hg : Nat → Option EOb) (c : EV) (us : List Nat) : Prop :=
  ∀ (st : St) (d : Option Tmp) (ty : TypeId) (pos : String) (af : Array Edge) (gd : Option (Nat × Bool)), Sk ev st → Hk hg us st → RS P ⟨d, op, ty, pos, af, gd⟩ st (enc c)
theorem FS.read {P : Program} {op : Op} {n : Nat} {ev : Nat → EV} {hg : Nat → Option EOb} {c : EV} {us : List Nat} {d : Nat} {ty : TypeId} {pos : String} {af : Array Edge} {gd : Option (Nat × Bool)}
    (h : RSE P op ev hg c us) (hd : d < n) : FS P ⟨some d, op, ty, pos, af, gd⟩ n ev hg c [] us .no := by
  intro st hn hs hh hf
  exact SS.read (h st _ _ _ _ _ hs hh) (by omega) rfl

/-! ### reckoning -/
def remI (a b : Int) : Option Int := if b = 0 then none else some (a.tmod b)
def quoI (a b : Int) : Option Int := if b = 0 then none else some (a.tdiv b)
/-- the bits' operations, sealed: the kernel shall not open them at unknown numbers -/
def bitI0 : { f : BinOp → IntKind → Int → Int → Int // f = bits } := Classical.choice ⟨⟨bits, rfl⟩⟩
def bitI (op : BinOp) (k : IntKind) (a b : Int) : Int := bitI0.1 op k a b
theorem bitI_eq (op : BinOp) (k : IntKind) (a b : Int) : bitI op k a b = bits op k a b := by rw [bitI, bitI0.2]
def nthI {α : Type} (xs : List α) (i : Int) : Option α := if 0 ≤ i then xs[i.toNat]? else none
theorem nthI_some {α : Type} {xs : List α} {i : Int} {x : α} (h : nthI xs i = some x) : 0 ≤ i ∧ xs[i.toNat]? = some x := by
  unfold nthI at h
  split at h
  · exact ⟨by assumption, h⟩
  · cases h
def binI (op : BinOp) (k : IntKind) (a b : Int) {R : Type} (kk : EV → Option R) : Option R :=
  match op with
  | .add => kk (.sc (.i k) (k.wrap (a + b)))
  | .sub => kk (.sc (.i k) (k.wrap (a - b)))
  | .mul => kk (.sc (.i k) (k.wrap (a * b)))
  | .rem => obind (remI a b) fun z => kk (.sc (.i k) z)
  | .quo => obind (quoI a b) fun z => kk (.sc (.i k) (k.wrap z))
  | .lss => kk (.sc .b (decide (a < b)))
  | .leq => kk (.sc .b (decide (a ≤ b)))
  | .gtr => kk (.sc .b (decide (b < a)))
  | .geq => kk (.sc .b (decide (b ≤ a)))
  | .eql => kk (.sc .b (decide (a = b)))
  | .neq => kk (.sc .b (!decide (a = b)))
  | .and => kk (.sc (.i k) (bitI .and k a b))
  | .or => kk (.sc (.i k) (bitI .or k a b))
  | .xor => kk (.sc (.i k) (bitI .xor k a b))
  | .andNot => kk (.sc (.i k) (bitI .andNot k a b))
  | _ => none
def shlI (k : IntKind) (a b : Int) : Option Int := if b < 0 then none else some (k.wrap (a * 2 ^ (min b.toNat k.bits)))
def shrI (k : IntKind) (a b : Int) : Option Int := if b < 0 then none else some (a.fdiv (2 ^ (min b.toNat k.bits)))
/-- cells that are numbers and truth values -/
def asJ : (s : Sc) → List EV → Option (s.Val × List EV)
  | .pr x y, cs => match asJ x cs with
    | some (a, cs1) => match asJ y cs1 with
      | some (b, cs2) => some ((a, b), cs2)
      | none => none
    | none => none
  | .u, cs => some ((), cs)
  | .i k, .sc s x :: cs => match castS s (.i k) x with
    | some a => some (a, cs)
    | none => none
  | .b, .sc s x :: cs => match castS s .b x with
    | some a => some (a, cs)
    | none => none
  | _, _ => none
def exBin (T : TypeId → TInfo) (op : BinOp) (t : TypeId) (a b : EV) {R : Type} (k : EV → Option R) : Option R :=
  match a with
  | .sc (.i ka) x => match b with
    | .sc (.i kb) y => match op with
      | .shl => obind (shlI ka x y) fun z => k (.sc (.i ka) z)
      | .shr => obind (shrI ka x y) fun z => k (.sc (.i ka) z)
      | _ => match castS (.i kb) (.i ka) y with
        | some z => binI op ka x z k
        | none => none
    | _ => none
  | .ag cs => match b with
    | .ag ds => match (T t).eq with
      | some s => match asJ s cs with
        | some (x, []) => match asJ s ds with
          | some (y, []) => match op with
            | .eql => k (.sc .b (eqV s x y))
            | .neq => k (.sc .b (!(eqV s x y)))
            | _ => none
          | _ => none
        | _ => none
      | none => none
    | _ => none
  | .sc .b x => match b with
    | .sc .b y => match op with
      | .eql => cond (T t).bo (k (.sc .b (@BEq.beq Bool _ x y))) none
      | .neq => cond (T t).bo (k (.sc .b (!(@BEq.beq Bool _ x y)))) none
      | _ => none
    | _ => none
  | _ => none
def exUn (op : UnOp) (a : EV) {R : Type} (k : EV → Option R) : Option R :=
  match op with
  | .not => match a with
    | .sc .b x => k (.sc .b (!x))
    | _ => none
  | .neg => match a with
    | .sc (.i kd) x => k (.sc (.i kd) (kd.wrap (0 - x)))
    | _ => none
  | _ => none
def exLen (hg : Nat → Option EOb) (a : EV) {R : Type} (k : EV → List Nat → Option R) : Option R :=
  match a with
  | .sc (.sl r) xs => k (.sc (.i .i64) ((@List.length r.Val xs : Nat) : Int)) []
  | .ts r xs => k (.sc (.i .i64) ((@List.length r.Val xs : Nat) : Int)) []
  | .nil => k (.sc (.i .i64) ((0 : Nat) : Int)) []
  | .ow j => match hg j with
    | some (.arr _ r xs _) => k (.sc (.i .i64) ((@List.length r.Val xs : Nat) : Int)) [j]
    | _ => none
  | _ => none
def exLenM (T : TypeId → TInfo) (hg : Nat → Option EOb) (t : TypeId) (a : EV) {R : Type} (k : EV → List Nat → Option R) : Option R :=
  match a with
  | .mp j => match hg j with
    | some (.mp d kc vc es) => match (T t).mp with
      | some _ => k (.sc (.i .i64) ((@List.length (kc.Val × vc.Val) es : Nat) : Int)) [j]
      | none => none
    | _ => none
  | _ => none
def isNilL {α : Type} : List α → Bool
  | [] => true
  | _ :: _ => false
theorem ne_itT {t : TypeId} (h : (!(Nat.beq t itT)) = true) : t ≠ itT := fun e => by rw [e, Nat.beq_refl] at h; cases h
/-- the cells behind a pointer -/
def exCells (hg : Nat → Option EOb) (p : EV) (m : Nat) {R : Type} (k : List EV → List Nat → Option R) : Option R :=
  match p with
  | .fp cs => cond (Nat.ble m cs.length) (k (cs.take m) []) none
  | .pt j o => match hg j with
    | some (.box t cs) => cond (!(Nat.beq t itT) && Nat.ble (o + m) cs.length) (k ((cs.drop o).take m) [j]) none
    | _ => none
  | .pe j i sz o => match hg j with
    | some (.arr _ r xs _) => cond (Nat.beq sz r.w && Nat.ble (o + m) sz) (obind (nthI xs i) fun x => k (((splitC r x).drop o).take m) [j]) none
    | some (.nr _ r xs ho) => cond (Nat.beq sz 1 && Nat.beq o 0 && Nat.beq m 1) (match ho with
      | none => obind (nthI xs i) fun x => cond (isNilL x) (k [.nil] [j]) (k [.sc (.sl r) x] [j])
      | some (i0, p) => cond (decide (i.toNat = i0.toNat)) (match p with
        | some q => obind (nthI xs i) fun _ => k [.ow q] [j]
        | none => none) (obind (nthI xs i) fun x => cond (isNilL x) (k [.nil] [j]) (k [.sc (.sl r) x] [j]))) none
    | _ => none
  | _ => none
def wrapE : Bool → List EV → Option EV
  | true, cs => some (.ag cs)
  | false, [c] => some c
  | false, _ => none
def exLoad (T : TypeId → TInfo) (hg : Nat → Option EOb) (t : TypeId) (p : EV) {R : Type} (k : EV → List Nat → Option R) : Option R :=
  match (T t).ty with
  | some (ag, m) => exCells hg p m fun cs us => match wrapE ag cs with
    | some c => k c us
    | none => none
  | none => none
def fieldE : EV → Nat → Option EV
  | .pt k o, f => some (.pt k (o + f))
  | .pe k i sz o, f => some (.pe k i sz (o + f))
  | .fp cs, f => some (.fp (cs.drop f))
  | _, _ => none
def exIndex (T : TypeId → TInfo) (hg : Nat → Option EOb) (t : TypeId) (a b : EV) {R : Type} (k : EV → List Nat → Option R) : Option R :=
  match b with
  | .sc (.i _) i => match a with
    | .sc (.sl r) xs => match (T t).el with
      | some (_, sz, _, _) => cond (Nat.beq sz r.w && Nat.blt 0 sz) (obind (nthI (show List r.Val from xs) i) fun x => k (.fp (splitC r x)) []) none
      | none => none
    | .ts r xs => match (T t).el with
      | some (_, sz, _, _) => cond (Nat.beq sz r.w && Nat.blt 0 sz) (obind (nthI xs i) fun x => k (.fp (splitC r x)) []) none
      | none => none
    | .ow j => match hg j with
      | some (.arr t' r xs _) => match (T t).el with
        | some (e, sz, _, _) => cond (Nat.beq sz r.w && Nat.beq e t') (obind (nthI xs i) fun _ => k (.pe j i sz 0) [j]) none
        | none => none
      | some (.nr t' r xs _) => match (T t).el with
        | some (e, sz, _, _) => cond (Nat.beq sz 1 && Nat.beq e t') (obind (nthI xs i) fun _ => k (.pe j i 1 0) [j]) none
        | none => none
      | _ => none
    | .pt j o => match (T t).ar with
      | some (n, _, sz) => match hg j with
        | some (.arr _ r xs _) => cond (Nat.beq o 0 && Nat.beq sz r.w) (obind (nthI (List.range n) i) fun _ => obind (nthI xs i) fun _ => k (.pe j i sz 0) [j]) none
        | _ => obind (nthI (List.range n) i) fun m => k (.pt j (o + m * sz)) []
      | none => none
    | .fp cs => match (T t).ar with
      | some (n, _, sz) => obind (nthI (List.range n) i) fun m => k (.fp (cs.drop (m * sz))) []
      | none => none
    | _ => none
  | _ => none
/-- an element of a table that was laid at the start -/
def exTab (T : TypeId → TInfo) (t : TypeId) (g : Nat) (b : EV) {R : Type} (k : EV → List Nat → Option R) : Option R :=
  match b with
  | .sc (.i _) i => match gasc gTab g with
    | some (k', l) => match (T t).ar with
      | some (n, _, sz) => cond (Nat.beq sz 1) (obind (nthI (List.range n) i) fun _ => obind (nthI l i) fun x => k (.fp [.sc (.i k') x]) []) none
      | none => none
    | none => none
  | _ => none
def exField (T : TypeId → TInfo) (t : TypeId) (f : Nat) (a : EV) {R : Type} (k : EV → Option R) : Option R :=
  match a with
  | .ag cs => match (T t).fd[f]? with
    | some (off, true, m) => cond (Nat.ble (off + m) cs.length) (k (.ag ((cs.drop off).take m))) none
    | some (off, false, m) => cond (Nat.ble (off + m) cs.length) (match cs[off]? with
      | some c => k c
      | none => none) none
    | none => none
  | _ => none
def cellsE : EV → Option (List EV)
  | .ag cs => some cs
  | c => cond (AV.one (enc c)) (some [c]) none
theorem cellsE_ok {c : EV} {cs : List EV} (h : cellsE c = some cs) : cellsOf (enc c) = some (encL cs) := by
  have key : ∀ c' : AV, c'.one = true → (∀ l, c' ≠ .ag l) → cellsOf c' = some [c'] := by
    intro c' h1 h2
    cases c' <;> first | (simp [AV.one] at h1; done) | (simp only [cellsOf, h1, if_true])
  cases c with
  | ag l => simp only [cellsE, Option.some.injEq] at h; subst h; rfl
  | _ =>
    simp only [cellsE] at h
    obtain ⟨h1, h2⟩ := cond_none h
    simp only [Option.some.injEq] at h2
    subst h2
    refine key _ h1 fun l hl => ?_
    rw [hl] at h1
    simp [AV.one] at h1
def owE (hg : Nat → Option EOb) : EV → Bool
  | .ow k => match hg k with
    | some (.arr ..) => true
    | _ => false
  | _ => true
def owU : EV → List Nat
  | .ow k => [k]
  | _ => []
theorem owE_ok {hg : Nat → Option EOb} {c : EV} {us : List Nat} {st : St} (h : owE hg c = true) (hh : Hk hg us st) (hu : ∀ k, (owU c).contains k = true → us.contains k = true) : owOk st.h (enc c) = true := by
  cases c with
  | ow k =>
    simp only [owE] at h
    split at h
    · rename_i t r xs wr hk
      have := hh.at (hu k (by simp [owU])) hk
      simp only [enc, owOk, this, encO]
    · cases h
  | sc s x => cases s <;> rfl
  | _ => rfl
def partsE (ev : Nat → EV) (hg : Nat → Option EOb) : List (Nat × Operand) → Option (List (Nat × List EV) × List Nat)
  | [] => some ([], [])
  | (i, x) :: ps => match cellsE (evx ev x) with
    | some cs => cond (owE hg (evx ev x)) (match partsE ev hg ps with
      | some (r, us) => some ((i, cs) :: r, owU (evx ev x) ++ us)
      | none => none) none
    | none => none
def setCellsE (cs : List EV) (o : Nat) : List EV → List EV
  | [] => cs
  | x :: xs => setCellsE (cs.set o x) (o + 1) xs
theorem encL_set (cs : List EV) (o : Nat) (x : EV) : encL (cs.set o x) = (encL cs).set o (enc x) := by
  rw [encL_map, encL_map, List.map_set]
theorem setCellsE_ok : ∀ (xs cs : List EV) (o : Nat), encL (setCellsE cs o xs) = setCells (encL cs) o (encL xs)
  | [], cs, o => rfl
  | x :: xs, cs, o => by rw [setCellsE, setCellsE_ok xs, encL_set]; rfl
def fillE (pl : List (Nat × Nat)) (cs : List EV) : List (Nat × List EV) → Option (List EV)
  | [] => some cs
  | (i, xs) :: rest => match pl[i]? with
    | some (off, size) => cond (Nat.beq xs.length size && Nat.ble (off + size) cs.length) (fillE pl (setCellsE cs off xs) rest) none
    | none => none
theorem fillA_mono {f g : Nat → Option (Nat × Nat)} (h : ∀ i p, f i = some p → g i = some p) : ∀ {ps : List (Nat × List AV)} {cs r : List AV}, fillA f cs ps = some r → fillA g cs ps = some r
  | [], cs, r, hr => hr
  | (i, xs) :: ps, cs, r, hr => by
    simp only [fillA] at hr ⊢
    split at hr
    · cases hr
    · rename_i off size hi
      rw [h _ _ hi]
      simp only
      split at hr
      · rename_i hc
        rw [if_pos hc]
        exact fillA_mono h hr
      · cases hr
def encP : List (Nat × List EV) → List (Nat × List AV)
  | [] => []
  | (i, x) :: r => (i, encL x) :: encP r
theorem fillE_ok {pl : List (Nat × Nat)} : ∀ {ps : List (Nat × List EV)} {cs cs' : List EV}, fillE pl cs ps = some cs' → fillA (fun i => pl[i]?) (encL cs) (encP ps) = some (encL cs')
  | [], cs, cs', h => by simp only [fillE, Option.some.injEq] at h; subst h; rfl
  | (i, xs) :: rest, cs, cs', h => by
    simp only [fillE] at h
    split at h
    · rename_i off size hp
      obtain ⟨h1, h2⟩ := cond_none h
      simp only [Bool.and_eq_true] at h1
      have a1 := Nat.eq_of_beq_eq_true h1.1
      have a2 := Nat.le_of_ble_eq_true h1.2
      have ih := fillE_ok h2
      rw [setCellsE_ok] at ih
      simp only [encP, fillA, hp, encL_length]
      rw [if_pos ⟨a1, a2⟩]
      exact ih
    · cases h
theorem partsE_ok {ev : Nat → EV} {hg : Nat → Option EOb} {st : St} {us' : List Nat} (hs : Sk ev st) (hh : Hk hg us' st) : ∀ {ps : List (Nat × Operand)} {r : List (Nat × List EV)} {us : List Nat}, partsE ev hg ps = some (r, us) → (∀ k, us.contains k = true → us'.contains k = true) →
    partsA st ps = some (encP r) ∧ partsOw st ps = true
  | [], r, us, h, hu => by simp only [partsE, Option.some.injEq, Prod.mk.injEq] at h; obtain ⟨rfl, rfl⟩ := h; exact ⟨rfl, rfl⟩
  | (i, x) :: ps, r, us, h, hu => by
    simp only [partsE] at h
    split at h
    · rename_i cs hc
      obtain ⟨h1, h2⟩ := cond_none h
      split at h2
      · rename_i r1 us1 hp
        simp only [Option.some.injEq, Prod.mk.injEq] at h2
        obtain ⟨rfl, rfl⟩ := h2
        obtain ⟨i1, i2⟩ := partsE_ok hs hh hp (fun k hk => hu k (by simp at hk ⊢; exact .inr hk))
        have hx : st.ev x = enc (evx ev x) := hs.is rfl (fun e => by rw [e] at hc; simp [cellsE, enc, AV.one] at hc)
        have hc' := cellsE_ok hc
        have ho := owE_ok h1 hh (fun k hk => hu k (by simp at hk ⊢; exact .inl hk))
        rw [← hx] at hc' ho
        refine ⟨?_, ?_⟩
        · simp only [partsA, hc', i1]; rfl
        · simp only [partsOw, ho, i2]; rfl
      · cases h2
    · cases h
def exBuild (T : TypeId → TInfo) (ev : Nat → EV) (hg : Nat → Option EOb) (t : TypeId) (parts : List (Nat × Operand)) {R : Type} (k : EV → List Nat → Option R) : Option R :=
  match (T t).pl with
  | some (z, l) => match partsE ev hg parts with
    | some (qs, us) => match fillE l (z.map cvE) qs with
      | some cs => k (.ag cs) us
      | none => none
    | none => none
  | none => none

section
variable {P : Program} {T : TypeId → TInfo} {ev : Nat → EV} {hg : Nat → Option EOb}

theorem RS.neqB {st : St} {d : Option Tmp} {ty t t2 : TypeId} {pos : String} {af : Array Edge} {gd : Option (Nat × Bool)} {x y : Operand} {b c : Bool} (ht : P.underlying t = some .bool) (hx : st.ev x = .v (.bool b)) (hy : st.ev y = .v (.bool c)) :
    RS P ⟨d, .binOp .neq t x y t2, ty, pos, af, gd⟩ st (.v (.bool (!(b == c)))) :=
  RS.bin hx hy (fun w => by simp [eqGuard]) fun w => run_neq_bool w t b c ht
theorem RS.bitop {st : St} {d : Option Tmp} {ty t t2 : TypeId} {pos : String} {af : Array Edge} {gd : Option (Nat × Bool)} {x y : Operand} {op : BinOp} {k : IntKind} {a b : Int} (ho : op = .and ∨ op = .or ∨ op = .xor ∨ op = .andNot) (hx : st.ev x = .v (.int k a)) (hy : st.ev y = .v (.int k b)) :
    RS P ⟨d, .binOp op t x y t2, ty, pos, af, gd⟩ st (.v (.int k (bitI op k a b))) := by
  rw [bitI_eq]
  rcases ho with rfl | rfl | rfl | rfl
  · exact RS.bin hx hy (fun w => by simp [eqGuard]) fun w => by simp [binOp_and, intBits_and]
  · exact RS.bin hx hy (fun w => by simp [eqGuard]) fun w => by simp [binOp_or, intBits_or]
  · exact RS.bin hx hy (fun w => by simp [eqGuard]) fun w => by simp [binOp_xor, intBits_xor]
  · exact RS.bin hx hy (fun w => by simp [eqGuard]) fun w => by simp [binOp_andNot, intBits_andNot]
theorem RS.shl {st : St} {d : Option Tmp} {ty t t2 : TypeId} {pos : String} {af : Array Edge} {gd : Option (Nat × Bool)} {x y : Operand} {k k2 : IntKind} {a b z : Int} (hz : shlI k a b = some z) (hx : st.ev x = .v (.int k a)) (hy : st.ev y = .v (.int k2 b)) :
    RS P ⟨d, .binOp .shl t x y t2, ty, pos, af, gd⟩ st (.v (.int k z)) := by
  unfold shlI at hz
  split at hz
  · cases hz
  · rename_i hb
    cases hz
    exact RS.bin hx hy (fun w => by simp [eqGuard]) fun w => by simp [binOp_shl, Op.shift, hb]
theorem RS.shr {st : St} {d : Option Tmp} {ty t t2 : TypeId} {pos : String} {af : Array Edge} {gd : Option (Nat × Bool)} {x y : Operand} {k k2 : IntKind} {a b z : Int} (hz : shrI k a b = some z) (hx : st.ev x = .v (.int k a)) (hy : st.ev y = .v (.int k2 b)) :
    RS P ⟨d, .binOp .shr t x y t2, ty, pos, af, gd⟩ st (.v (.int k z)) := by
  unfold shrI at hz
  split at hz
  · cases hz
  · rename_i hb
    cases hz
    exact RS.bin hx hy (fun w => by simp [eqGuard]) fun w => by simp [binOp_shr, Op.shift, hb]
theorem RS.weak {st : St} {o : Oper} {c c' : AV} (h : RS P o st c) (hw : Wk c c') : RS P o st c' := fun w0 Rd0 e a w hg => by
  obtain ⟨v, h1, h2⟩ := h w0 Rd0 e a w hg
  exact ⟨v, hw _ _ _ h1, h2⟩
theorem Wk.un {c : AV} : Wk c .un := fun _ _ _ _ => .un
theorem RS.conv {st : St} {d : Option Tmp} {ty t t2 : TypeId} {pos : String} {af : Array Edge} {gd : Option (Nat × Bool)} {x : Operand} {k kd k0 : IntKind} {a : Int} (hs : P.underlying t = some (.int k0)) (hd : P.underlying t2 = some (.int kd)) (hx : st.ev x = .v (.int k a)) :
    RS P ⟨d, .convert t t2 x, ty, pos, af, gd⟩ st (.v (.int kd (kd.wrap a))) := fun w0 Rd0 e a' w h => by
  have h1 := h.ev x
  rw [hx] at h1
  refine ⟨_, .v, fun w' _ => ?_⟩
  have e1 := h1.v_inv
  have hk : P.intKind t2 = kd := by simp [Program.intKind, hd]
  have := run_convert_int w' t t2 k a (by rw [hs]; rfl) (by rw [hk]; exact hd)
  rw [hk] at this
  simp only [execOp, e1, Sem.run_bind, this, Result.andThen_ok, Sem.run_pure]
theorem RS.neg {st : St} {d : Option Tmp} {ty t : TypeId} {pos : String} {af : Array Edge} {gd : Option (Nat × Bool)} {x : Operand} {k : IntKind} {a : Int} (hx : st.ev x = .v (.int k a)) :
    RS P ⟨d, .unOp .neg t x, ty, pos, af, gd⟩ st (.v (.int k (k.wrap (0 - a)))) := fun w0 Rd0 e a' w h => by
  have h1 := h.ev x
  rw [hx] at h1
  refine ⟨_, .v, fun w' _ => ?_⟩
  have e1 := h1.v_inv
  simp only [execOp, e1, unary_neg, Op.intArith, Sem.run_bind, Sem.run_pure, Result.andThen_ok]
theorem binI_ok {op : BinOp} {kd : IntKind} {a b : Int} {R : Type} {kk : EV → Option R} {r : R} {t t2 : TypeId} {x y : Operand} (h : binI op kd a b kk = some r) (hx : evx ev x = .sc (.i kd) a) (hy : evx ev y = .sc (.i kd) b) :
    ∃ c, RSE P (.binOp op t x y t2) ev hg c [] ∧ kk c = some r := by
  have ex : ∀ st, Sk ev st → st.ev x = .v (.int kd a) := fun st hs => hs.is hx (by intro e; cases e)
  have ey : ∀ st, Sk ev st → st.ev y = .v (.int kd b) := fun st hs => hs.is hy (by intro e; cases e)
  cases op with
  | add => exact ⟨_, fun st d ty pos af gd hs hh => RS.add (ex st hs) (ey st hs), h⟩
  | sub => exact ⟨_, fun st d ty pos af gd hs hh => RS.sub (ex st hs) (ey st hs), h⟩
  | mul => exact ⟨_, fun st d ty pos af gd hs hh => RS.mul (ex st hs) (ey st hs), h⟩
  | lss => exact ⟨_, fun st d ty pos af gd hs hh => RS.lss (ex st hs) (ey st hs), h⟩
  | leq => exact ⟨_, fun st d ty pos af gd hs hh => RS.leq (ex st hs) (ey st hs), h⟩
  | gtr => exact ⟨_, fun st d ty pos af gd hs hh => RS.gtr (ex st hs) (ey st hs), h⟩
  | geq => exact ⟨_, fun st d ty pos af gd hs hh => RS.geq (ex st hs) (ey st hs), h⟩
  | eql => exact ⟨_, fun st d ty pos af gd hs hh => RS.eql (ex st hs) (ey st hs), h⟩
  | and => exact ⟨_, fun st d ty pos af gd hs hh => RS.bitop (.inl rfl) (ex st hs) (ey st hs), h⟩
  | or => exact ⟨_, fun st d ty pos af gd hs hh => RS.bitop (.inr (.inl rfl)) (ex st hs) (ey st hs), h⟩
  | xor => exact ⟨_, fun st d ty pos af gd hs hh => RS.bitop (.inr (.inr (.inl rfl))) (ex st hs) (ey st hs), h⟩
  | andNot => exact ⟨_, fun st d ty pos af gd hs hh => RS.bitop (.inr (.inr (.inr rfl))) (ex st hs) (ey st hs), h⟩
  | neq =>
    refine ⟨_, fun st d ty pos af gd hs hh => ?_, h⟩
    have := RS.neq (P := P) (d := d) (ty := ty) (pos := pos) (af := af) (gd := gd) (t := t) (t2 := t2) (ex st hs) (ey st hs)
    rw [decide_not] at this
    exact this
  | rem =>
    simp only [binI] at h
    obtain ⟨z, hz, hk⟩ := obind_some h
    unfold remI at hz
    split at hz
    · cases hz
    · rename_i hb
      cases hz
      exact ⟨_, fun st d ty pos af gd hs hh => RS.rem (ex st hs) (ey st hs) hb, hk⟩
  | quo =>
    simp only [binI] at h
    obtain ⟨z, hz, hk⟩ := obind_some h
    unfold quoI at hz
    split at hz
    · cases hz
    · rename_i hb
      cases hz
      exact ⟨_, fun st d ty pos af gd hs hh => RS.quo (ex st hs) (ey st hs) hb, hk⟩
  | _ => cases h
theorem asJ_ok : ∀ (s : Sc) {cs rest : List EV} {x : s.Val}, asJ s cs = some (x, rest) → s.key = true → ∃ cs0, cs = cs0 ++ rest ∧ encL cs0 = encC s x
  | .pr a c, cs, rest, x, h, hk => by
    simp only [Sc.key, Bool.and_eq_true] at hk
    simp only [asJ] at h
    split at h
    · rename_i va cs1 ha
      split at h
      · rename_i vb cs2 hb
        simp only [Option.some.injEq, Prod.mk.injEq] at h
        obtain ⟨rfl, rfl⟩ := h
        obtain ⟨p, rfl, hp⟩ := asJ_ok a ha hk.1
        obtain ⟨q, rfl, hq⟩ := asJ_ok c hb hk.2
        exact ⟨p ++ q, by simp, by rw [encL_append, hp, hq]; rfl⟩
      · cases h
    · cases h
  | .u, cs, rest, x, h, hk => by
    simp only [asJ, Option.some.injEq, Prod.mk.injEq] at h
    obtain ⟨-, rfl⟩ := h
    exact ⟨[], rfl, rfl⟩
  | .i k, cs, rest, x, h, hk => by
    cases cs with
    | nil => simp [asJ] at h
    | cons c cs =>
      cases c with
      | sc s y =>
        simp only [asJ] at h
        split at h
        · rename_i z hz
          simp only [Option.some.injEq, Prod.mk.injEq] at h
          obtain ⟨rfl, rfl⟩ := h
          obtain ⟨rfl, rfl⟩ := castS_ok hz
          exact ⟨[_], rfl, rfl⟩
        · cases h
      | _ => simp [asJ] at h
  | .b, cs, rest, x, h, hk => by
    cases cs with
    | nil => simp [asJ] at h
    | cons c cs =>
      cases c with
      | sc s y =>
        simp only [asJ] at h
        split at h
        · rename_i z hz
          simp only [Option.some.injEq, Prod.mk.injEq] at h
          obtain ⟨rfl, rfl⟩ := h
          obtain ⟨rfl, rfl⟩ := castS_ok hz
          exact ⟨[_], rfl, rfl⟩
        · cases h
      | _ => simp [asJ] at h
  | .sl r, cs, rest, x, h, hk => by simp [Sc.key] at hk
theorem LR.keyVs {Rd : Nat → Nat → Value → Prop} {E : Option Env} : ∀ (s : Sc) (x : s.Val) {us : List Value}, s.key = true → LR (VR Rd E) (encC s x) us → us = keyVs s x
  | .i k, x, us, _, h => by
    obtain ⟨h1, h2⟩ := h
    match us, h1 with
    | [u], _ => exact congrArg (fun z => [z]) (h2 0 _ _ rfl rfl).v_inv
  | .b, x, us, _, h => by
    obtain ⟨h1, h2⟩ := h
    match us, h1 with
    | [u], _ => exact congrArg (fun z => [z]) (h2 0 _ _ rfl rfl).v_inv
  | .u, x, us, _, h => List.eq_nil_of_length_eq_zero h.1
  | .sl r, x, us, hk, _ => by simp [Sc.key] at hk
  | .pr a c, x, us, hk, h => by
    simp only [Sc.key, Bool.and_eq_true] at hk
    have hl : us.length = (encC a x.1).length + (encC c x.2).length := by rw [h.1]; simp [encC]
    have h1 := h.take (encC a x.1).length
    have h2 := h.drop (encC a x.1).length
    simp only [encC, List.take_left, List.drop_left] at h1 h2
    have e1 := LR.keyVs a x.1 hk.1 h1
    have e2 := LR.keyVs c x.2 hk.2 h2
    rw [← List.take_append_drop (encC a x.1).length us, e1, e2]; rfl
theorem RS.eqAgg {st : St} {d : Option Tmp} {ty t t2 : TypeId} {pos : String} {af : Array Edge} {gd : Option (Nat × Bool)} {a b : Operand} {s : Sc} {x y : s.Val} (hq : EqOk P t s) (ha : st.ev a = .ag (encC s x)) (hb : st.ev b = .ag (encC s y)) :
    RS P ⟨d, .binOp .eql t a b t2, ty, pos, af, gd⟩ st (.v (.bool (eqV s x y))) ∧ RS P ⟨d, .binOp .neq t a b t2, ty, pos, af, gd⟩ st (.v (.bool (!(eqV s x y)))) := by
  refine ⟨fun w0 Rd0 e a' w h => ?_, fun w0 Rd0 e a' w h => ?_⟩
  all_goals
    have h1 := h.ev a
    have h2 := h.ev b
    rw [ha] at h1
    rw [hb] at h2
    obtain ⟨us, e1, l1⟩ := VR.ag_inv h1
    obtain ⟨vs, e2, l2⟩ := VR.ag_inv h2
    rw [LR.keyVs s x hq.1 l1] at e1
    rw [LR.keyVs s y hq.1 l2] at e2
    refine ⟨_, .v, fun w' _ => ?_⟩
    have q1 := (hq.2 x y w').1
    have q2 := (hq.2 x y w').2
    simp only [execOp, e1, e2, Sem.run_bind, q2, Result.andThen_ok, binOp, q1, Sem.run_pure]
theorem exBin_ok (hT : TOk P T) {op : BinOp} {R : Type} {k : EV → Option R} {r : R} {t t2 : TypeId} {x y : Operand} (h : exBin T op t (evx ev x) (evx ev y) k = some r) :
    ∃ c, RSE P (.binOp op t x y t2) ev hg c [] ∧ k c = some r := by
  unfold exBin at h
  split at h
  · rename_i ka a ha
    split at h
    · rename_i kb b hb
      split at h
      · obtain ⟨z, hz, hk⟩ := obind_some h
        exact ⟨_, fun st d ty pos af gd hs hh => RS.shl hz (hs.is ha (by intro e; cases e)) (hs.is hb (by intro e; cases e)), hk⟩
      · obtain ⟨z, hz, hk⟩ := obind_some h
        exact ⟨_, fun st d ty pos af gd hs hh => RS.shr hz (hs.is ha (by intro e; cases e)) (hs.is hb (by intro e; cases e)), hk⟩
      · split at h
        · rename_i z hz
          obtain ⟨e, rfl⟩ := castS_ok hz
          cases e
          exact binI_ok h ha hb
        · cases h
    · cases h
  · rename_i cs ha
    split at h
    · rename_i ds hb
      split at h
      · rename_i s hs
        split at h
        · rename_i vx hx
          split at h
          · rename_i vy hy
            have hq := hT.eq _ _ hs
            obtain ⟨c1, q1, w1⟩ := asJ_ok s hx hq.1
            obtain ⟨c2, q2, w2⟩ := asJ_ok s hy hq.1
            simp only [List.append_nil] at q1 q2
            subst q1 q2
            split at h
            · refine ⟨_, fun st d ty pos af gd hs hh => (RS.eqAgg hq ?_ ?_).1, h⟩
              · rw [hs.is ha (by intro e; cases e), enc, w1]
              · rw [hs.is hb (by intro e; cases e), enc, w2]
            · refine ⟨_, fun st d ty pos af gd hs hh => (RS.eqAgg hq ?_ ?_).2, h⟩
              · rw [hs.is ha (by intro e; cases e), enc, w1]
              · rw [hs.is hb (by intro e; cases e), enc, w2]
            · cases h
          · cases h
        · cases h
      · cases h
    · cases h
  · rename_i a ha
    split at h
    · rename_i b hb
      split at h
      · obtain ⟨h1, h2⟩ := cond_none h
        exact ⟨_, fun st d ty pos af gd hs hh => RS.eqlB (hT.bo _ h1) (hs.is ha (by intro e; cases e)) (hs.is hb (by intro e; cases e)), h2⟩
      · obtain ⟨h1, h2⟩ := cond_none h
        exact ⟨_, fun st d ty pos af gd hs hh => RS.neqB (hT.bo _ h1) (hs.is ha (by intro e; cases e)) (hs.is hb (by intro e; cases e)), h2⟩
      · cases h
    · cases h
  · cases h
theorem exUn_ok {op : UnOp} {R : Type} {k : EV → Option R} {r : R} {t : TypeId} {x : Operand} (h : exUn op (evx ev x) k = some r) : ∃ c, RSE P (.unOp op t x) ev hg c [] ∧ k c = some r := by
  unfold exUn at h
  split at h
  · split at h
    · rename_i a ha
      exact ⟨_, fun st d ty pos af gd hs hh => RS.not (hs.is ha (by intro e; cases e)), h⟩
    · cases h
  · split at h
    · rename_i kd a ha
      exact ⟨_, fun st d ty pos af gd hs hh => RS.neg (hs.is ha (by intro e; cases e)), h⟩
    · cases h
  · cases h
theorem exLen_ok (hT : TOk P T) {R : Type} {k : EV → List Nat → Option R} {r : R} {x : Operand} {ts : Array TypeId} {t : TypeId} (ht : ts[0]? = some t) (hsl : (T t).slT = true) (h : exLen hg (evx ev x) k = some r) :
    ∃ c us, RSE P (.call ⟨.builtin .len, #[x], ts⟩) ev hg c us ∧ k c us = some r := by
  unfold exLen at h
  split at h
  · rename_i r' xs hx
    refine ⟨_, _, fun st d ty pos af gd hs hh => RS.len (hT.slT _ hsl) ht ?_, h⟩
    rw [hs.is hx (by intro e; cases e)]
    simp only [enc, encS, lenA, List.length_map]
  · rename_i r' xs hx
    refine ⟨_, _, fun st d ty pos af gd hs hh => RS.len (hT.slT _ hsl) ht ?_, h⟩
    rw [hs.is hx (by intro e; cases e)]
    simp only [enc, encS, lenA, List.length_map]
  · rename_i hx
    refine ⟨_, _, fun st d ty pos af gd hs hh => RS.len (hT.slT _ hsl) ht ?_, h⟩
    rw [hs.is hx (by intro e; cases e)]
    rfl
  · rename_i j hx
    split at h
    · rename_i t' r' xs wr hj
      refine ⟨_, _, fun st d ty pos af gd hs hh => RS.len (hT.slT _ hsl) ht ?_, h⟩
      rw [hs.is hx (by intro e; cases e)]
      simp only [enc, lenA, hh.at (by simp) hj, encO, List.length_map]
    · cases h
  · cases h
theorem exLenM_ok (hT : TOk P T) {R : Type} {k : EV → List Nat → Option R} {r : R} {x : Operand} {ts : Array TypeId} {t : TypeId} (ht : ts[0]? = some t) (h : exLenM T hg t (evx ev x) k = some r) :
    ∃ c us, RSE P (.call ⟨.builtin .len, #[x], ts⟩) ev hg c us ∧ k c us = some r := by
  unfold exLenM at h
  split at h
  · rename_i j hx
    split at h
    · rename_i d kc vc es hj
      split at h
      · rename_i tz hm
        obtain ⟨td, z⟩ := tz
        refine ⟨_, _, fun st dd ty pos af gd hs hh => ?_, h⟩
        have := RS.lenM (P := P) (st := st) (dd := dd) (ty := ty) (pos := pos) (af := af) (gd := gd) (k := j) (es := encM kc vc es) ht (hT.mp _ _ hm) (hs.is hx (by intro e; cases e)) (hh.at (by simp) hj)
        rw [show (encM kc vc es).length = es.length by simp [encM]] at this
        exact this
      · cases h
    · cases h
  · cases h
theorem encL_take (cs : List EV) (m : Nat) : encL (cs.take m) = (encL cs).take m := by rw [encL_map, encL_map, List.map_take]
theorem encL_drop (cs : List EV) (m : Nat) : encL (cs.drop m) = (encL cs).drop m := by rw [encL_map, encL_map, List.map_drop]
theorem exCells_ok {p : EV} {m : Nat} {R : Type} {k : List EV → List Nat → Option R} {r : R} (h : exCells hg p m k = some r) :
    ∃ cs us, (∀ st us', (∀ x, us.contains x = true → us'.contains x = true) → Hk hg us' st → cellsF st (enc p) m = some (encL cs)) ∧ k cs us = some r := by
  unfold exCells at h
  split at h
  · rename_i cs
    obtain ⟨h1, h2⟩ := cond_none h
    refine ⟨_, _, fun st us' hu hh => ?_, h2⟩
    simp only [enc, cellsF, encL_length]
    rw [if_pos (Nat.le_of_ble_eq_true h1), encL_take]
  · rename_i j o
    split at h
    · rename_i t cs hj
      obtain ⟨h1, h2⟩ := cond_none h
      refine ⟨_, _, fun st us' hu hh => ?_, h2⟩
      simp only [enc, cellsF, hh.at (hu j (by simp)) hj, encO, encL_length]
      simp only [Bool.and_eq_true] at h1
      rw [if_pos ⟨ne_itT h1.1, Nat.le_of_ble_eq_true h1.2⟩, encL_take, encL_drop]
    · cases h
  · rename_i j i sz o
    split at h
    · rename_i t r' xs wr hj
      obtain ⟨h1, h2⟩ := cond_none h
      obtain ⟨x, hx, hk⟩ := obind_some h2
      simp only [Bool.and_eq_true] at h1
      have a1 := Nat.eq_of_beq_eq_true h1.1
      have a2 := Nat.le_of_ble_eq_true h1.2
      obtain ⟨hi, hx⟩ := nthI_some hx
      refine ⟨_, _, fun st us' hu hh => ?_, hk⟩
      simp only [enc, cellsF, hh.at (hu j (by simp)) hj, encO, List.getElem?_map, hx, Option.map_some, encC_len]
      rw [if_pos ⟨by omega, a1.symm⟩, encL_take, encL_drop, encL_split]
    · rename_i t r' xs ho hj
      obtain ⟨h1, h2⟩ := cond_none h
      simp only [Bool.and_eq_true] at h1
      have a1 := Nat.eq_of_beq_eq_true h1.1.1
      have a2 := Nat.eq_of_beq_eq_true h1.1.2
      have a3 := Nat.eq_of_beq_eq_true h1.2
      have look : ∀ {us : List Nat} {c : EV}, (nrC r' xs ho)[i.toNat]? = some (enc c) → us.contains j = true → ∀ st us', (∀ x, us.contains x = true → us'.contains x = true) → Hk hg us' st → cellsF st (enc (.pe j i sz o)) m = some (encL [c]) := fun hc hu0 st us' hu hh => by
        simp only [enc, cellsF, hh.at (hu j hu0) hj, encO, hc]
        rw [if_pos ⟨a1, a2, a3⟩]; rfl
      have plain : ∀ {k : List EV → List Nat → Option R}, (∀ x, xs[i.toNat]? = some x → (nrC r' xs ho)[i.toNat]? = some (nrA r' x)) → (obind (nthI xs i) fun x => cond (isNilL x) (k [.nil] [j]) (k [.sc (.sl r') x] [j])) = some r →
          ∃ cs us, (∀ st us', (∀ x, us.contains x = true → us'.contains x = true) → Hk hg us' st → cellsF st (enc (.pe j i sz o)) m = some (encL cs)) ∧ k cs us = some r := fun {k} hn h => by
        obtain ⟨x, hx, hk⟩ := obind_some h
        obtain ⟨hi, hx⟩ := nthI_some hx
        have hc := hn x hx
        cases x with
        | nil => exact ⟨_, _, look (c := .nil) hc (by simp), hk⟩
        | cons y ys => exact ⟨_, _, look (c := .sc (.sl r') (y :: ys)) hc (by simp), hk⟩
      split at h2
      · refine plain (fun x hx => ?_) h2
        simp only [nrC, List.getElem?_map, hx, Option.map_some]
      · rename_i i0 p
        rcases cond_some h2 with ⟨he, h2⟩ | ⟨he, h2⟩
        · cases p with
          | some q =>
            obtain ⟨x, hx, hk⟩ := obind_some h2
            obtain ⟨hi, hx⟩ := nthI_some hx
            have he : i.toNat = i0.toNat := of_decide_eq_true he
            refine ⟨_, _, look (c := .ow q) ?_ (by simp), hk⟩
            have hlt : i.toNat < xs.length := (List.getElem?_eq_some_iff.1 hx).1
            simp only [nrC, ← he, enc, nrH]
            rw [List.getElem?_set_self (by simpa using hlt)]
          | none => cases h2
        · refine plain (fun x hx => ?_) h2
          have he : ¬ i.toNat = i0.toNat := of_decide_eq_false he
          simp only [nrC]
          rw [List.getElem?_set_ne (by omega), List.getElem?_map, hx]; rfl
    · cases h
  · cases h
theorem wrapE_ok {ag : Bool} {cs : List EV} {c : EV} (h : wrapE ag cs = some c) : wrapA ag (encL cs) = some (enc c) := by
  unfold wrapE at h
  split at h
  · cases h; rfl
  · cases h; rfl
  · cases h
theorem exLoad_ok (hT : TOk P T) {R : Type} {k : EV → List Nat → Option R} {r : R} {t : TypeId} {x : Operand} (h : exLoad T hg t (evx ev x) k = some r) : ∃ c us, RSE P (.load t x) ev hg c us ∧ k c us = some r := by
  unfold exLoad at h
  split at h
  · rename_i ag m ht
    obtain ⟨cs, us, h1, h2⟩ := exCells_ok h
    split at h2
    · rename_i c hc
      refine ⟨c, us, fun st d ty pos af gd hs hh => RS.loadF ?_, h2⟩
      have hx : st.ev x = enc (evx ev x) := hs.is rfl (fun e => by rw [e] at h; simp [exCells] at h)
      simp only [loadF, hT.ty _ _ ht, hx, h1 st us (fun _ h => h) hh]
      exact wrapE_ok hc
    · cases h2
  · cases h
theorem fieldE_ok {p q : EV} {f : Nat} (h : fieldE p f = some q) : fieldP (enc p) f = some (enc q) := by
  unfold fieldE at h
  split at h
  · cases h; rfl
  · cases h; rfl
  · cases h; simp only [enc, fieldP, encL_drop]
  · cases h
theorem nthI_range {n : Nat} {i : Int} {m : Nat} (h : nthI (List.range n) i = some m) : 0 ≤ i ∧ i < n ∧ m = i.toNat := by
  obtain ⟨h0, h1⟩ := nthI_some h
  obtain ⟨h2, h3⟩ := List.getElem?_eq_some_iff.1 h1
  simp at h2 h3
  omega
theorem exIndex_ok (hT : TOk P T) {R : Type} {k : EV → List Nat → Option R} {r : R} {t : TypeId} {x y : Operand} (h : exIndex T hg t (evx ev x) (evx ev y) k = some r) : ∃ c us, RSE P (.indexAddr t x y) ev hg c us ∧ k c us = some r := by
  unfold exIndex at h
  split at h
  · rename_i ki i hy
    split at h
    · rename_i r' xs hx
      split at h
      · rename_i e sz by_ z he
        obtain ⟨h1, h2⟩ := cond_none h
        obtain ⟨a, ha, hk⟩ := obind_some h2
        obtain ⟨h0, ha⟩ := nthI_some ha
        simp only [Bool.and_eq_true] at h1
        have a1 := Nat.eq_of_beq_eq_true h1.1
        have a2 : 0 < sz := Nat.le_of_ble_eq_true h1.2
        refine ⟨_, _, fun st d ty pos af gd hs hh => ?_, hk⟩
        have := RS.indexSl (P := P) (d := d) (ty := ty) (pos := pos) (af := af) (gd := gd) (hT.el _ _ he) (by rw [a1]; exact hs.is hx (by intro e; cases e)) (hs.is hy (by intro e; cases e)) h0 (by rw [List.getElem?_map, ha]; rfl) a2
        rw [enc, encL_split]
        exact this
      · cases h
    · rename_i r' xs hx
      split at h
      · rename_i e sz by_ z he
        obtain ⟨h1, h2⟩ := cond_none h
        obtain ⟨a, ha, hk⟩ := obind_some h2
        obtain ⟨h0, ha⟩ := nthI_some ha
        simp only [Bool.and_eq_true] at h1
        have a1 := Nat.eq_of_beq_eq_true h1.1
        have a2 : 0 < sz := Nat.le_of_ble_eq_true h1.2
        refine ⟨_, _, fun st d ty pos af gd hs hh => ?_, hk⟩
        have := RS.indexSl (P := P) (d := d) (ty := ty) (pos := pos) (af := af) (gd := gd) (hT.el _ _ he) (by rw [a1]; exact hs.is hx (by intro e; cases e)) (hs.is hy (by intro e; cases e)) h0 (by rw [List.getElem?_map, ha]; rfl) a2
        rw [enc, encL_split]
        exact this
      · cases h
    · rename_i j hx
      split at h
      · rename_i t' r' xs wr hj
        split at h
        · rename_i e sz by_ z he
          obtain ⟨h1, h2⟩ := cond_none h
          obtain ⟨a, ha, hk⟩ := obind_some h2
          obtain ⟨h0, ha⟩ := nthI_some ha
          simp only [Bool.and_eq_true] at h1
          have a1 := Nat.eq_of_beq_eq_true h1.1
          have a2 := Nat.eq_of_beq_eq_true h1.2
          have hlt := (List.getElem?_eq_some_iff.1 ha).1
          refine ⟨_, _, fun st d ty pos af gd hs hh => ?_, hk⟩
          refine RS.indexOw (rows := List.map (encC r') xs) (wr := wr) (hT.el _ _ he) (hs.is hx (by intro e; cases e)) ?_ (hs.is hy (by intro e; cases e)) h0 (by rw [List.length_map]; omega)
          rw [hh.at (by simp) hj, a1, a2]; rfl
        · cases h
      · rename_i t' r' xs ho hj
        split at h
        · rename_i e sz by_ z he
          obtain ⟨h1, h2⟩ := cond_none h
          obtain ⟨a, ha, hk⟩ := obind_some h2
          obtain ⟨h0, ha⟩ := nthI_some ha
          simp only [Bool.and_eq_true] at h1
          have a1 := Nat.eq_of_beq_eq_true h1.1
          have a2 := Nat.eq_of_beq_eq_true h1.2
          subst a1
          subst a2
          have hlt := (List.getElem?_eq_some_iff.1 ha).1
          refine ⟨_, _, fun st d ty pos af gd hs hh => ?_, hk⟩
          refine RS.indexNr (cs := nrC r' xs ho) (hT.el _ _ he) (hs.is hx (by intro e; cases e)) ?_ (hs.is hy (by intro e; cases e)) h0 ?_
          · rw [hh.at (by simp) hj]; rfl
          · have : (nrC r' xs ho).length = xs.length := by
              unfold nrC; split <;> simp
            rw [this]; omega
        · cases h
      · cases h
    · rename_i j o hx
      split at h
      · rename_i n e sz he
        split at h
        · obtain ⟨hc, h⟩ := cond_none h
          obtain ⟨a, ha, h⟩ := obind_some h
          obtain ⟨b, hb, hk⟩ := obind_some h
          obtain ⟨h0, h1, rfl⟩ := nthI_range ha
          simp only [Bool.and_eq_true] at hc
          have ho := Nat.eq_of_beq_eq_true hc.1
          subst ho
          exact ⟨_, _, fun st d ty pos af gd hs hh => RS.indexArrOw (hT.ar _ _ he) (hs.is hy (by intro e; cases e)) h0 h1 (hs.is hx (by intro e; cases e)), hk⟩
        · obtain ⟨a, ha, hk⟩ := obind_some h
          obtain ⟨h0, h1, rfl⟩ := nthI_range ha
          exact ⟨_, _, fun st d ty pos af gd hs hh => RS.indexArr (hT.ar _ _ he) (hs.is hy (by intro e; cases e)) h0 h1 (by rw [hs.is hx (by intro e; cases e)]; rfl), hk⟩
      · cases h
    · rename_i cs hx
      split at h
      · rename_i n e sz he
        obtain ⟨a, ha, hk⟩ := obind_some h
        obtain ⟨h0, h1, rfl⟩ := nthI_range ha
        refine ⟨_, _, fun st d ty pos af gd hs hh => RS.indexArr (hT.ar _ _ he) (hs.is hy (by intro e; cases e)) h0 h1 ?_, hk⟩
        rw [hs.is hx (by intro e; cases e)]
        simp only [enc, fieldP, encL_drop]
      · cases h
    · cases h
  · cases h
theorem VR.fpHead {Rd : Nat → Nat → Value → Prop} {E : Option Env} {cs : List AV} {c : AV} {u : Value} (h : VR Rd E (.fp cs) u) (hc : cs[0]? = some c) : VR Rd E (.fp [c]) u := by
  cases h with
  | fp us hl hcs ha =>
    cases us with
    | nil =>
      have := (List.getElem?_eq_some_iff.1 hc).1
      simp at hl; omega
    | cons v us =>
      refine VR.fp [v] rfl (fun j c' u' h1 h2 => ?_) (fun j u' h1 => ?_)
      · cases j with
        | zero => simp at h1 h2; subst h1; subst h2; exact hcs 0 _ _ hc rfl
        | succ j => simp at h1
      · cases j with
        | zero => simp at h1; subst h1; exact ha 0 _ rfl
        | succ j => simp at h1
theorem RS.imp' {P : Program} {o : Oper} {st : St} {c c' : AV} (h : RS P o st c) (hc : ∀ Rd E u, VR Rd E c u → VR Rd E c' u) : RS P o st c' := fun w0 Rd0 e a w hg => by
  obtain ⟨v, hv, hr⟩ := h w0 Rd0 e a w hg
  exact ⟨v, hc _ _ _ hv, hr⟩
theorem exTab_ok (hT : TOk P T) {R : Type} {k : EV → List Nat → Option R} {r : R} {t : TypeId} {g : Nat} {y : Operand} (h : exTab T t g (evx ev y) k = some r) : ∃ c us, RSE P (.indexAddr t (.global g) y) ev hg c us ∧ k c us = some r := by
  unfold exTab at h
  split at h
  · rename_i ki i hy
    split at h
    · rename_i k' l hg'
      split at h
      · rename_i n e sz he
        obtain ⟨h1, h2⟩ := cond_none h
        have h1 := Nat.eq_of_beq_eq_true h1
        subst h1
        obtain ⟨a, ha, h2⟩ := obind_some h2
        obtain ⟨h0, hn, rfl⟩ := nthI_range ha
        obtain ⟨x, hx, hk⟩ := obind_some h2
        obtain ⟨_, hx⟩ := nthI_some hx
        refine ⟨_, _, fun st d ty pos af gd hs hh => ?_, hk⟩
        refine RS.imp' (RS.indexArr (q := .fp ((l.map fun x => AV.v (.int k' x)).drop (i.toNat * 1))) (hT.ar _ _ he) (hs.is hy (by intro e; cases e)) h0 hn ?_) fun Rd E u hv => ?_
        · simp only [St.ev, gA, hg', fieldP]
        · exact hv.fpHead (by rw [List.getElem?_drop, Nat.add_zero, Nat.mul_one, List.getElem?_map, hx]; rfl)
      · cases h
    · cases h
  · cases h
theorem exField_ok (hT : TOk P T) {R : Type} {k : EV → Option R} {r : R} {t : TypeId} {f : Nat} {x : Operand} (h : exField T t f (evx ev x) k = some r) : ∃ c, RSE P (.field t x f) ev hg c [] ∧ k c = some r := by
  unfold exField at h
  split at h
  · rename_i cs hx
    split at h
    · rename_i off m hf
      obtain ⟨h1, h2⟩ := cond_none h
      refine ⟨_, fun st d ty pos af gd hs hh => RS.field (hT.fd _ _ _ hf) (hs.is hx (by intro e; cases e)) (by rw [encL_length]; exact Nat.le_of_ble_eq_true h1) (.inl ⟨rfl, ?_⟩), h2⟩
      simp only [enc, encL_take, encL_drop]
    · rename_i off m hf
      obtain ⟨h1, h2⟩ := cond_none h
      split at h2
      · rename_i c hc
        refine ⟨_, fun st d ty pos af gd hs hh => RS.field (hT.fd _ _ _ hf) (hs.is hx (by intro e; cases e)) (by rw [encL_length]; exact Nat.le_of_ble_eq_true h1) (.inr ⟨rfl, ?_⟩), h2⟩
        rw [encL_map, List.getElem?_map, hc]; rfl
      · cases h2
    · cases h
  · cases h
theorem exBuild_ok (hT : TOk P T) {R : Type} {k : EV → List Nat → Option R} {r : R} {t : TypeId} {parts : Array (Nat × Operand)} (h : exBuild T ev hg t parts.toList k = some r) : ∃ c us, RSE P (.build t parts) ev hg c us ∧ k c us = some r := by
  unfold exBuild at h
  split at h
  · rename_i z l hp
    split at h
    · rename_i qs us hq
      split at h
      · rename_i cs hf
        refine ⟨_, _, fun st d ty pos af gd hs hh => ?_, h⟩
        obtain ⟨h1, h2⟩ := partsE_ok hs hh hq fun _ h => h
        have h3 := fillE_ok hf
        rw [encL_cvE] at h3
        obtain ⟨f, hpf, hpi⟩ := hT.pl _ _ _ hp
        exact RS.build hpf h1 h2 (fillA_mono hpi h3)
      · cases h
    · cases h
  · cases h

/-! ### zero -/
def zeroV : (s : Sc) → s.Val
  | .i _ => (0 : Int)
  | .b => false
  | .sl r => ([] : List r.Val)
  | .pr x y => (zeroV x, zeroV y)
  | .u => ()
def zcOk : Sc → List Value → Option (List Value)
  | .i k, zs => match zs with
    | .int l n :: r => if k = l ∧ n = 0 then some r else none
    | _ => none
  | .b, zs => match zs with
    | .bool c :: r => cond c none (some r)
    | _ => none
  | .sl _, zs => match zs with
    | .slice none 0 0 :: r => some r
    | _ => none
  | .pr x y, zs => match zcOk x zs with
    | some zs1 => zcOk y zs1
    | none => none
  | .u, zs => some zs
theorem zcOk_ok : ∀ (s : Sc) {zs rest : List Value}, zcOk s zs = some rest → ∃ z0, zs = z0 ++ rest ∧ WkL (z0.map cvA) (encC s (zeroV s)) ∧ z0.all Value.oneCell' = true ∧ z0.all (fun v => (cvA v).one) = true
  | .i k, zs, rest, h => by
    simp only [zcOk] at h
    split at h
    · split at h
      · rename_i hk
        cases h
        obtain ⟨rfl, rfl⟩ := hk
        exact ⟨[_], rfl, .cons (Wk.refl (.v (.int _ 0))) .nil, rfl, rfl⟩
      · cases h
    · cases h
  | .b, zs, rest, h => by
    simp only [zcOk] at h
    split at h
    · rename_i c zs1
      cases c with
      | true => cases h
      | false =>
        cases h
        exact ⟨[_], rfl, .cons (Wk.refl (.v (.bool false))) .nil, rfl, rfl⟩
    · cases h
  | .sl r, zs, rest, h => by
    simp only [zcOk] at h
    split at h
    · cases h
      exact ⟨[_], rfl, .cons (Wk.empty rfl) .nil, rfl, rfl⟩
    · cases h
  | .pr a c, zs, rest, h => by
    simp only [zcOk] at h
    split at h
    · rename_i z1 h1
      obtain ⟨p, rfl, p1, p2, p3⟩ := zcOk_ok a h1
      obtain ⟨q, rfl, q1, q2, q3⟩ := zcOk_ok c h
      refine ⟨p ++ q, by simp, ?_, by simp only [List.all_append, p2, q2]; rfl, by simp only [List.all_append, p3, q3]; rfl⟩
      rw [List.map_append]
      exact p1.append q1
    · cases h
  | .u, zs, rest, h => by
    simp only [zcOk, Option.some.injEq] at h
    subst h
    exact ⟨[], rfl, .nil, rfl, rfl⟩
def zvOk (s : Sc) (z : Value) : Bool := match s with
  | .pr x y => match z with
    | .agg cs => match zcOk (.pr x y) cs.toList with
      | some [] => true
      | _ => false
    | _ => false
  | .u => match z with
    | .agg cs => match zcOk .u cs.toList with
      | some [] => true
      | _ => false
    | _ => false
  | .i k => match z with
    | .agg _ => false
    | z => match zcOk (.i k) [z] with
      | some [] => true
      | _ => false
  | .b => match z with
    | .agg _ => false
    | z => match zcOk .b [z] with
      | some [] => true
      | _ => false
  | .sl r => match z with
    | .agg _ => false
    | z => match zcOk (.sl r) [z] with
      | some [] => true
      | _ => false
theorem WkL.single {a c : AV} (h : WkL [a] [c]) : Wk a c := by
  cases h with
  | cons h _ => exact h
theorem zvOk_ok {s : Sc} {z : Value} (h : zvOk s z = true) : Wk (zvA z) (enc (valE s (zeroV s))) := by
  have one : ∀ {s : Sc} {z : Value} {c : AV}, zcOk s [z] = some [] → encC s (zeroV s) = [c] → Wk (cvA z) c := by
    intro s z c h he
    obtain ⟨z0, h1, h2, _⟩ := zcOk_ok s h
    rw [List.append_nil] at h1
    subst h1
    rw [he] at h2
    exact h2.single
  have nag : ∀ {z : Value}, (∀ cs, z ≠ .agg cs) → zvA z = cvA z := by
    intro z hz
    unfold zvA
    split
    · exact absurd rfl (hz _)
    · rfl
  unfold zvOk at h
  split at h
  · split at h
    · split at h
      · rename_i h1
        obtain ⟨z0, h2, h3, _⟩ := zcOk_ok _ h1
        rw [List.append_nil] at h2
        simp only [zvA, valE, enc, encL_split, h2]
        exact Wk.ag h3
      · cases h
    · cases h
  · split at h
    · split at h
      · rename_i h1
        obtain ⟨z0, h2, h3, _⟩ := zcOk_ok _ h1
        rw [List.append_nil] at h2
        simp only [zvA, valE, enc, h2]
        exact Wk.ag h3
      · cases h
    · cases h
  · split at h
    · cases h
    · rename_i hz
      split at h
      · rename_i h1
        rw [nag hz]
        exact one h1 rfl
      · cases h
  · split at h
    · cases h
    · rename_i hz
      split at h
      · rename_i h1
        rw [nag hz]
        exact one h1 rfl
      · cases h
  · split at h
    · cases h
    · rename_i hz
      split at h
      · rename_i h1
        rw [nag hz]
        exact one h1 rfl
      · cases h

/-! ### maps -/
def keyOk (d : TypeDesc) (s : Sc) : Bool := match s with
  | .i k => match d with
    | .int l => decide (k = l)
    | _ => false
  | .b => match d with
    | .bool => true
    | _ => false
  | .pr (.i .i64) (.i .i64) => match d with
    | .tuple ⟨[]⟩ => true
    | _ => false
  | _ => false
theorem keyOk_ok {d : TypeDesc} {s : Sc} (h : keyOk d s = true) (x : s.Val) : KeyD d (keyV s x) ∧ s.key = true := by
  unfold keyOk at h
  split at h
  · split at h
    · exact ⟨by simpa [keyV, KeyD, MapKept.IsKey] using h, rfl⟩
    · cases h
  · split at h
    · exact ⟨trivial, rfl⟩
    · cases h
  · split at h
    · exact ⟨⟨x.1, x.2, rfl⟩, rfl⟩
    · cases h
  · cases h
def keyE : (s : Sc) → EV → Option s.Val
  | .pr a b2, c => match c with
    | .ag cs => match asJ (.pr a b2) cs with
      | some (x, []) => some x
      | _ => none
    | _ => none
  | .i k, c => asS (.i k) c
  | .b, c => asS .b c
  | .sl _, _ => none
  | .u, _ => none
def exLookup (T : TypeId → TInfo) (hg : Nat → Option EOb) (t : TypeId) (a b : EV) (ok : Bool) {R : Type} (k : EV → List Nat → Option R) : Option R :=
  match a with
  | .mp j => match hg j with
    | some (.mp d kc vc es) => match (T t).mp with
      | some (td, z) => match keyE kc b with
        | some x => cond (keyOk d kc && keyOk td kc && zvOk vc z) (cond ok (k (.tu [valE vc ((mget kc es x).getD (zeroV vc)), .sc .b (mget kc es x).isSome]) [j]) (k (valE vc ((mget kc es x).getD (zeroV vc))) [j])) none
        | none => none
      | none => none
    | _ => none
  | _ => none
theorem keyOk_eq {d td : TypeDesc} {s : Sc} (h : keyOk d s = true) (h2 : keyOk td s = true) : d = td := by
  unfold keyOk at h h2
  split at h
  · split at h
    · simp only at h2
      split at h2
      · have e1 := of_decide_eq_true h
        have e2 := of_decide_eq_true h2
        rw [← e1, ← e2]
      · cases h2
    · cases h
  · split at h
    · simp only at h2
      split at h2
      · rfl
      · cases h2
    · cases h
  · split at h
    · simp only at h2
      split at h2
      · rfl
      · cases h2
    · cases h
  · cases h
theorem asS_key {s : Sc} {c : EV} {x : s.Val} (hs : (match s with
    | .i _ => true
    | .b => true
    | _ => false) = true) (ha : asS s c = some x) : enc c = .v (keyV s x) := by
  have e : encS s x = .v (keyV s x) := by cases s <;> simp at hs <;> rfl
  rw [← e]
  cases c with
  | sc s' y => obtain ⟨rfl, rfl⟩ := castS_ok ha; rfl
  | nil => cases s <;> simp [asS] at ha hs
  | ts r xs => obtain ⟨rfl, rfl⟩ := castS_ok ha; simp at hs
  | _ => simp [asS] at ha
theorem keyE_ok {d : TypeDesc} {s : Sc} {c : EV} {x : s.Val} (h : keyOk d s = true) (ha : keyE s c = some x) : ∀ (Rd : Nat → Nat → Value → Prop) E u, VR Rd E (enc c) u → u = keyV s x := by
  intro Rd E u hv
  cases s with
  | i k => rw [asS_key (s := .i k) rfl ha] at hv; exact hv.v_inv
  | b => rw [asS_key (s := .b) rfl ha] at hv; exact hv.v_inv
  | sl r => cases ha
  | u => cases ha
  | pr a b2 =>
    have hk := (keyOk_ok h x).2
    simp only [keyE] at ha
    split at ha
    · rename_i cs
      split at ha
      · rename_i y hj
        cases ha
        obtain ⟨cs0, e1, e2⟩ := asJ_ok _ hj hk
        rw [List.append_nil] at e1
        subst e1
        simp only [enc, e2] at hv
        obtain ⟨us, e3, hl⟩ := VR.ag_inv hv
        rw [e3, LR.keyVs _ _ hk hl]
        rfl
      · cases ha
    · cases ha
theorem exLookup_ok (hT : TOk P T) {R : Type} {k : EV → List Nat → Option R} {r : R} {t : TypeId} {x y : Operand} {ok : Bool} (h : exLookup T hg t (evx ev x) (evx ev y) ok k = some r) : ∃ c us, RSE P (.lookup t x y ok) ev hg c us ∧ k c us = some r := by
  unfold exLookup at h
  split at h
  · rename_i j hx
    split at h
    · rename_i d kc vc es hj
      split at h
      · rename_i td z ht
        split at h
        · rename_i a ha
          obtain ⟨h1, h2⟩ := cond_none h
          simp only [Bool.and_eq_true] at h1
          obtain ⟨⟨g1, g2⟩, g3⟩ := h1
          have hd := keyOk_eq g1 g2
          subst hd
          obtain ⟨k1, k2⟩ := keyOk_ok g1 a
          have hz := zvOk_ok g3
          have hne : evx ev y ≠ .un := fun e => by rw [e] at ha; cases kc <;> simp [keyE, asS] at ha
          have look : Wk ((alook (encM kc vc es) (keyV kc a)).getD (zvA z)) (enc (valE vc ((mget kc es a).getD (zeroV vc)))) := by
            rw [alook_enc k2]
            cases mget kc es a with
            | none => exact hz
            | some v => exact Wk.refl _
          rcases cond_some h2 with ⟨ho, h3⟩ | ⟨ho, h3⟩
          · refine ⟨_, _, fun st d' ty pos af gd hs hh => ?_, h3⟩
            rw [ho]
            have := RS.lookupOk (P := P) (dd := d') (ty := ty) (pos := pos) (af := af) (gd := gd) (hT.mp _ _ ht) (hs.is hx (by intro e; cases e)) (hh.at (by simp) hj) (by rw [hs.is rfl hne]; exact keyE_ok g1 ha) k1
            refine this.weak (Wk.tu (.cons look (.cons ?_ .nil)))
            rw [alook_enc k2, Option.isSome_map]
            exact Wk.refl _
          · refine ⟨_, _, fun st d' ty pos af gd hs hh => ?_, h3⟩
            rw [ho]
            exact (RS.lookup (P := P) (dd := d') (ty := ty) (pos := pos) (af := af) (gd := gd) (hT.mp _ _ ht) (hs.is hx (by intro e; cases e)) (hh.at (by simp) hj) (by rw [hs.is rfl hne]; exact keyE_ok g1 ha) k1).weak look
        · cases h
      · cases h
    · cases h
  · cases h

/-! ### all that only read -/
def ex2 (a b : EV) {R : Type} (k : IntKind → Int → Int → Option R) : Option R := match a with
  | .sc (.i ka) x => match b with
    | .sc (.i kb) y => match castS (.i kb) (.i ka) y with
      | some z => k ka x z
      | none => none
    | _ => none
  | _ => none
theorem ex2_ok {x y : Operand} {R : Type} {k : IntKind → Int → Int → Option R} {r : R} (h : ex2 (evx ev x) (evx ev y) k = some r) : ∃ kd a b, evx ev x = .sc (.i kd) a ∧ evx ev y = .sc (.i kd) b ∧ k kd a b = some r := by
  unfold ex2 at h
  split at h
  · rename_i ka a ha
    split at h
    · rename_i kb b hb
      split at h
      · rename_i z hz
        obtain ⟨e, rfl⟩ := castS_ok hz
        cases e
        exact ⟨ka, a, b, ha, hb, h⟩
      · cases h
    · cases h
  · cases h
def exCallB (T : TypeId → TInfo) (ev : Nat → EV) (hg : Nat → Option EOb) (b : Builtin) (args : Array Operand) (ts : Array TypeId) {R : Type} (k : EV → List Nat → Option R) : Option R :=
  match b with
  | .len => match args with
    | ⟨[x]⟩ => match ts[0]? with
      | some t => cond (T t).slT (exLen hg (evx ev x) k) (exLenM T hg t (evx ev x) k)
      | none => none
    | _ => none
  | .min => match args with
    | ⟨[x, y]⟩ => ex2 (evx ev x) (evx ev y) fun kd a b => k (.sc (.i kd) (if b < a then b else a)) []
    | _ => none
  | .max => match args with
    | ⟨[x, y]⟩ => ex2 (evx ev x) (evx ev y) fun kd a b => k (.sc (.i kd) (if b > a then b else a)) []
    | _ => none
  | _ => none
def exR (T : TypeId → TInfo) (ev : Nat → EV) (hg : Nat → Option EOb) (op : Op) {R : Type} (k : EV → List Nat → Option R) : Option R :=
  match op with
  | .move x => k (evx ev x) []
  | .assign x => k (evx ev x) []
  | .pick c x y => match evx ev c with
    | .sc .b b => cond b (k (evx ev x) []) (k (evx ev y) [])
    | _ => none
  | .load t x => exLoad T hg t (evx ev x) k
  | .binOp o t x y _ => exBin T o t (evx ev x) (evx ev y) fun c => k c []
  | .unOp o _ x => exUn o (evx ev x) fun c => k c []
  | .convert s t x => match evx ev x with
    | .sc (.i _) n => match (T s).ik with
      | some _ => match (T t).ik with
        | some kd => k (.sc (.i kd) (kd.wrap n)) []
        | none => none
      | none => none
    | _ => none
  | .fieldAddr t x f => match (T t).fd[f]? with
    | some (off, _, m) => cond (Nat.blt 0 m) (match fieldE (evx ev x) off with
      | some q => k q []
      | none => none) none
    | none => none
  | .field t x f => exField T t f (evx ev x) fun c => k c []
  | .indexAddr t (.global g) y => exTab T t g (evx ev y) k
  | .indexAddr t x y => exIndex T hg t (evx ev x) (evx ev y) k
  | .extract x i => match evx ev x with
    | .tu vs => match vs[i]? with
      | some c => k c []
      | none => none
    | _ => none
  | .build t parts => exBuild T ev hg t parts.toList k
  | .lookup t x y ok => exLookup T hg t (evx ev x) (evx ev y) ok k
  | .nilCheck x => cond (nnA (enc (evx ev x))) (k (evx ev x) []) none
  | .makeFunc fn fs cs => k (.cl fn (fs.toList.map (evx ev)) (cs.toList.map (evx ev))) []
  | .call ⟨.builtin b, args, ts⟩ => exCallB T ev hg b args ts k
  | _ => none
theorem exCallB_ok (hT : TOk P T) {R : Type} {k : EV → List Nat → Option R} {r : R} {b : Builtin} {args : Array Operand} {ts : Array TypeId} (h : exCallB T ev hg b args ts k = some r) : ∃ c us, RSE P (.call ⟨.builtin b, args, ts⟩) ev hg c us ∧ k c us = some r := by
  unfold exCallB at h
  split at h
  · split at h
    · rename_i x
      split at h
      · rename_i t ht
        rcases cond_some h with ⟨h1, h2⟩ | ⟨h1, h2⟩
        · exact exLen_ok hT ht h1 h2
        · exact exLenM_ok hT ht h2
      · cases h
    · cases h
  · split at h
    · rename_i x y
      obtain ⟨kd, a, b, ha, hb, hk⟩ := ex2_ok h
      exact ⟨_, _, fun st d ty pos af gd hs hh => RS.min2 (hs.is ha (by intro e; cases e)) (hs.is hb (by intro e; cases e)), hk⟩
    · cases h
  · split at h
    · rename_i x y
      obtain ⟨kd, a, b, ha, hb, hk⟩ := ex2_ok h
      exact ⟨_, _, fun st d ty pos af gd hs hh => RS.max2 (hs.is ha (by intro e; cases e)) (hs.is hb (by intro e; cases e)), hk⟩
    · cases h
  · cases h
theorem Sk.wk {st : St} (hs : Sk ev st) (x : Operand) : Wk (st.ev x) (enc (evx ev x)) := by
  rcases hs.x x with h | h
  · rw [h]; exact Wk.un
  · rw [h]; exact Wk.refl _
theorem Sk.wks {st : St} (hs : Sk ev st) : ∀ xs : List Operand, WkL (xs.map st.ev) (xs.map (enc ∘ evx ev))
  | [] => .nil
  | x :: xs => .cons (hs.wk x) (hs.wks xs)
theorem exR_ok (hT : TOk P T) {R : Type} {k : EV → List Nat → Option R} {r : R} {op : Op} (h : exR T ev hg op k = some r) : ∃ c us, RSE P op ev hg c us ∧ k c us = some r := by
  unfold exR at h
  split at h
  · exact ⟨_, _, fun st d ty pos af gd hs hh => (RS.move _).weak (hs.wk _), h⟩
  · exact ⟨_, _, fun st d ty pos af gd hs hh => (RS.assign _).weak (hs.wk _), h⟩
  · split at h
    · rename_i c x y _ b hc
      rcases cond_some h with ⟨hb, hk⟩ | ⟨hb, hk⟩
      · subst hb
        exact ⟨_, _, fun st d ty pos af gd hs hh => (RS.pickT (hs.is hc (by intro e; cases e)) rfl).weak (hs.wk _), hk⟩
      · subst hb
        exact ⟨_, _, fun st d ty pos af gd hs hh => (RS.pickF (hs.is hc (by intro e; cases e)) rfl).weak (hs.wk _), hk⟩
    · cases h
  · exact exLoad_ok hT h
  · obtain ⟨c, h1, h2⟩ := exBin_ok hT h
    exact ⟨c, _, h1, h2⟩
  · obtain ⟨c, h1, h2⟩ := exUn_ok h
    exact ⟨c, _, h1, h2⟩
  · split at h
    · rename_i n hx
      split at h
      · rename_i k0 h0
        split at h
        · rename_i kd hd
          exact ⟨_, _, fun st d ty pos af gd hs hh => RS.conv (hT.ik _ _ h0) (hT.ik _ _ hd) (hs.is hx (by intro e; cases e)), h⟩
        · cases h
      · cases h
    · cases h
  · split at h
    · rename_i off ag m hf
      obtain ⟨h1, h2⟩ := cond_none h
      split at h2
      · rename_i q hq
        have hm : 0 < m := Nat.le_of_ble_eq_true h1
        refine ⟨_, _, fun st d ty pos af gd hs hh => RS.fieldAddr (hT.fd _ _ _ hf) (by omega) ?_, h2⟩
        rw [hs.is rfl (fun e => by rw [e] at hq; simp [fieldE] at hq)]
        exact fieldE_ok hq
      · cases h2
    · cases h
  · obtain ⟨c, h1, h2⟩ := exField_ok hT h
    exact ⟨c, _, h1, h2⟩
  · exact exTab_ok hT h
  · exact exIndex_ok hT h
  · split at h
    · rename_i vs hx
      split at h
      · rename_i c hc
        refine ⟨_, _, fun st d ty pos af gd hs hh => RS.extract (hs.is hx (by intro e; cases e)) ?_, h⟩
        rw [encL_map, List.getElem?_map, hc]; rfl
      · cases h
    · cases h
  · exact exBuild_ok hT h
  · exact exLookup_ok hT h
  · rename_i x
    obtain ⟨h1, h2⟩ := cond_none h
    refine ⟨_, _, fun st d ty pos af gd hs hh => ?_, h2⟩
    have hne : evx ev x ≠ .un := fun e => by rw [e] at h1; simp [enc, nnA] at h1
    have hx := hs.is (x := x) rfl hne
    rw [← hx]
    exact RS.nilCheck (by rw [hx]; exact h1)
  · exact ⟨_, _, fun st d ty pos af gd hs hh => RS.makeFunc.weak (by
      rw [enc, encL_map, encL_map, List.map_map, List.map_map]
      exact Wk.clM (hs.wks _) (hs.wks _)), h⟩
  · exact exCallB_ok hT h
  · cases h
end
end
end Go.Proofs.Ytggnolfcgaglfaa
