/- Keys of maps: of plain kinds, and structs of two whole numbers. -/
import Derived.Test.YtggnolfcgaglfaaSymR
import Derived.ChangeKeysEq
set_option linter.unusedVariables false
set_option linter.unusedSimpArgs false
namespace Go.Proofs.Ytggnolfcgaglfaa
open Go Go.RowKit MapKept
variable {P : Program}

/-- what may be done with keys of a type -/
structure KeyT (P : Program) (kt : TypeId) (d : TypeDesc) : Prop where
  chk : ∀ (e : Bool) (v : Value) (w : World), KeyD d v → (Instr.checkKey e 10000 kt v).run P w = .ok () w
  fnd : ∀ (v : Value) (l : List MapEntry), KeyD d v → (∀ m ∈ l, KeyD d m.key) →
    ((∀ w : World, (Instr.findKey kt v l).run P w = .ok none w) ∧ ∀ m ∈ l, m.key ≠ v) ∨ ∃ j m, (∀ w : World, (Instr.findKey kt v l).run P w = .ok (some (j, m.val)) w) ∧ l[j]? = some m ∧ m.key = v
  stay : ∀ (v : Value) (w : World), KeyD d v → (Instr.keyThatStays v v).run P w = .ok v w
def plainD : TypeDesc → Bool
  | .int _ => true
  | .bool => true
  | _ => false
theorem keyD_plain {d : TypeDesc} (h : plainD d = true) {v : Value} : KeyD d v ↔ IsKey d v := by
  cases d <;> simp [plainD] at h <;> rfl
theorem keyT_plain {kt : TypeId} {d : TypeDesc} (hp : plainD d = true) (hu : P.underlying kt = some d) : KeyT P kt d where
  chk := fun e v w hv => run_checkKey hu ((keyD_plain hp).1 hv) e 9999
  fnd := fun v l hv hl => by
    have hv' := (keyD_plain hp).1 hv
    rcases findNow_spec hv' l 0 (fun m hm => (keyD_plain hp).1 (hl m hm)) with ⟨h1, h2⟩ | ⟨j, m, h1, h2, h3⟩
    · exact .inl ⟨fun w => run_findKey hu h1, h2⟩
    · exact .inr ⟨j, m, fun w => by have := run_findKey (w := w) hu h1; simpa using this, h2, h3⟩
  stay := fun v w hv => run_keyThatStays ((keyD_plain hp).1 hv)
/-- a struct of two whole numbers -/
def duoF (P : Program) (f g : Field) : Bool := decide (f.offset = 0) && decide (g.offset = 1) && f.name != "_" && g.name != "_" && (match P.underlying f.type, P.underlying g.type with
  | some (.int .i64), some (.int .i64) => true
  | _, _ => false)
def duoB (P : Program) (kt : TypeId) : Bool := !(P.stoodInHeld kt) && (match P.underlying kt with
  | some (.struct ⟨[f, g]⟩) => duoF P f g
  | _ => false)
theorem duoB_parts {kt : TypeId} (h : duoB P kt = true) : P.stoodInHeld kt = false ∧ ∃ f g, P.underlying kt = some (.struct #[f, g]) ∧ f.offset = 0 ∧ g.offset = 1 ∧ f.name ≠ "_" ∧ g.name ≠ "_" ∧ P.underlying f.type = some (.int .i64) ∧ P.underlying g.type = some (.int .i64) := by
  simp only [duoB, Bool.and_eq_true, Bool.not_eq_true'] at h
  obtain ⟨h1, h2⟩ := h
  split at h2
  · rename_i f g hu
    simp only [duoF, Bool.and_eq_true, decide_eq_true_eq, bne_iff_ne] at h2
    obtain ⟨⟨⟨⟨a1, a2⟩, a3⟩, a4⟩, a5⟩ := h2
    refine ⟨h1, f, g, hu, a1, a2, a3, a4, ?_⟩
    split at a5
    · rename_i b1 b2; exact ⟨b1, b2⟩
    · cases a5
  · cases h2
theorem duo_equal {kt : TypeId} (h : duoB P kt = true) (a b c d : Int) (w : World) : (Op.equal kt (.agg #[.int .i64 a, .int .i64 b]) (.agg #[.int .i64 c, .int .i64 d])).run P w = .ok (decide (a = c ∧ b = d)) w := by
  obtain ⟨h0, f, g, hu, o1, o2, n1, n2, u1, u2⟩ := duoB_parts h
  have hf : P.fieldsOf kt = #[f, g] := by simp [Program.fieldsOf, hu]
  have p1 : P.plainKey f.type = true := by simp [Program.plainKey, u1]
  have p2 : P.plainKey g.type = true := by simp [Program.plainKey, u2]
  show (Op.equalIn (9999 + 1) _ _ _).run P w = _
  rw [run_equalIn_struct w 9999 kt _ _ (by rw [hf]; exact hu) h0, hf]
  have e1 : ∀ xs : Array Value, ∀ v, xs[0]? = some v → (part f.type xs f.offset).run P w = .ok v w := fun xs v hx => run_part_plain w p1 (by rw [o1]; exact hx)
  have e2 : ∀ xs : Array Value, ∀ v, xs[1]? = some v → (part g.type xs g.offset).run P w = .ok v w := fun xs v hx => run_part_plain w p2 (by rw [o2]; exact hx)
  have q1 : (Op.equalIn 9999 f.type (.int .i64 a) (.int .i64 c)).run P w = .ok (a == c) w := run_equalIn_int (P := P) w 9998 f.type .i64 .i64 a c u1
  have q2 : (Op.equalIn 9999 g.type (.int .i64 b) (.int .i64 d)).run P w = .ok (b == d) w := run_equalIn_int (P := P) w 9998 g.type .i64 .i64 b d u2
  simp only [Op.eqFields, n1, n2, ne_eq, not_false_eq_true, if_true, Sem.run_bind, e1 #[.int .i64 a, .int .i64 b] (.int .i64 a) rfl, e1 #[.int .i64 c, .int .i64 d] (.int .i64 c) rfl, Result.andThen_ok]
  have g1 := e1 #[.int .i64 a, .int .i64 b] (.int .i64 a) rfl
  have g2 := e1 #[.int .i64 c, .int .i64 d] (.int .i64 c) rfl
  have g3 := e2 #[.int .i64 a, .int .i64 b] (.int .i64 b) rfl
  have g4 := e2 #[.int .i64 c, .int .i64 d] (.int .i64 d) rfl
  cases h1 : (a == c) with
  | false =>
    rw [h1] at q1
    have : ¬ a = c := by simpa using h1
    simp [q1, this]
  | true =>
    rw [h1] at q1
    have : a = c := by simpa using h1
    subst this
    cases h2 : (b == d) with
    | false =>
      rw [h2] at q2
      have h3 : ¬ b = d := by simpa using h2
      simp [q1, q2, g3, g4, h3]
    | true =>
      rw [h2] at q2
      have h3 : b = d := by simpa using h2
      subst h3
      simp [q1, q2, g3, g4]
theorem duo_check {kt : TypeId} (h : duoB P kt = true) (e : Bool) (a b : Int) (w : World) : (Instr.checkKey e 10000 kt (.agg #[.int .i64 a, .int .i64 b])).run P w = .ok () w := by
  obtain ⟨h0, f, g, hu, o1, o2, n1, n2, u1, u2⟩ := duoB_parts h
  have p1 : P.plainKey f.type = true := by simp [Program.plainKey, u1]
  have p2 : P.plainKey g.type = true := by simp [Program.plainKey, u2]
  have e1 : (part f.type #[Value.int .i64 a, .int .i64 b] f.offset).run P w = .ok (.int .i64 a) w := run_part_plain w p1 (by rw [o1]; rfl)
  have e2 : (part g.type #[Value.int .i64 a, .int .i64 b] g.offset).run P w = .ok (.int .i64 b) w := run_part_plain w p2 (by rw [o2]; rfl)
  have c1 : (Instr.checkKey e 9999 f.type (.int .i64 a)).run P w = .ok () w := run_checkKey u1 (k := .int .i64 a) (by simp [IsKey]) e 9998
  have c2 : (Instr.checkKey e 9999 g.type (.int .i64 b)).run P w = .ok () w := run_checkKey u2 (k := .int .i64 b) (by simp [IsKey]) e 9998
  rw [Instr.checkKey]
  simp [run_underlying hu, Sem.run_bind, n1, n2, e1, e2, c1, c2]
theorem duo_find {kt : TypeId} (h : duoB P kt = true) (a b : Int) : ∀ (l : List MapEntry) (i : Nat), (∀ m ∈ l, ∃ c d : Int, m.key = .agg #[.int .i64 c, .int .i64 d]) →
    ((∀ w : World, (Instr.findAsking kt (.agg #[.int .i64 a, .int .i64 b]) l i).run P w = .ok none w) ∧ ∀ m ∈ l, m.key ≠ .agg #[.int .i64 a, .int .i64 b]) ∨
      ∃ j m, (∀ w : World, (Instr.findAsking kt (.agg #[.int .i64 a, .int .i64 b]) l i).run P w = .ok (some (i + j, m.val)) w) ∧ l[j]? = some m ∧ m.key = .agg #[.int .i64 a, .int .i64 b]
  | [], i, _ => .inl ⟨fun w => by simp [Instr.findAsking, Sem.run_pure], by simp⟩
  | m :: l, i, hl => by
    obtain ⟨c, d, hm⟩ := hl m (by simp)
    by_cases hq : a = c ∧ b = d
    · obtain ⟨rfl, rfl⟩ := hq
      refine .inr ⟨0, m, fun w => ?_, rfl, hm⟩
      have := duo_equal h a b a b w
      simp only [Instr.findAsking, hm, Sem.run_bind, this, Result.andThen_ok]
      simp [Sem.run_pure]
    · have hne : m.key ≠ .agg #[.int .i64 a, .int .i64 b] := fun e => by
        rw [hm] at e
        simp at e
        exact hq ⟨e.1.symm, e.2.symm⟩
      have hstep : ∀ w : World, (Instr.findAsking kt (.agg #[.int .i64 a, .int .i64 b]) (m :: l) i).run P w = (Instr.findAsking kt (.agg #[.int .i64 a, .int .i64 b]) l (i + 1)).run P w := fun w => by
        have := duo_equal h a b c d w
        simp only [Instr.findAsking, hm, Sem.run_bind, this, Result.andThen_ok]
        simp [hq]
      rcases duo_find h a b l (i + 1) (fun x hx => hl x (by simp [hx])) with ⟨h1, h2⟩ | ⟨j, m', h1, h2, h3⟩
      · refine .inl ⟨fun w => by rw [hstep]; exact h1 w, fun x hx => ?_⟩
        rcases List.mem_cons.1 hx with rfl | hx
        · exact hne
        · exact h2 x hx
      · exact .inr ⟨j + 1, m', fun w => by rw [hstep, h1 w]; congr 3; omega, by simpa using h2, h3⟩
theorem keyT_duo {kt : TypeId} (h : duoB P kt = true) : KeyT P kt (.tuple #[]) where
  chk := fun e v w hv => by
    obtain ⟨a, b, rfl⟩ := hv
    exact duo_check h e a b w
  fnd := fun v l hv hl => by
    obtain ⟨a, b, rfl⟩ := hv
    obtain ⟨h0, f, g, hu, _⟩ := duoB_parts h
    have hrun : ∀ w : World, (Instr.findKey kt (.agg #[.int .i64 a, .int .i64 b]) l).run P w = (Instr.findAsking kt (.agg #[.int .i64 a, .int .i64 b]) l 0).run P w := fun w => by
      unfold Instr.findKey
      rw [Sem.run_bind, run_underlying hu, Result.andThen_ok]
      cases l with
      | nil => simp [Instr.findNow, Instr.findAsking, Sem.run_pure]
      | cons m l =>
        obtain ⟨c, d, hm⟩ := hl m (by simp)
        simp [Instr.findNow, Instr.sameNow, hm]
    rcases duo_find h a b l 0 hl with ⟨h1, h2⟩ | ⟨j, m, h1, h2, h3⟩
    · exact .inl ⟨fun w => by rw [hrun]; exact h1 w, h2⟩
    · exact .inr ⟨j, m, fun w => by rw [hrun, h1 w]; simp, h2, h3⟩
  stay := fun v w hv => by
    obtain ⟨a, b, rfl⟩ := hv
    simp [Instr.keyThatStays, Instr.sameBits, Sem.run_pure]
/-- what is known of a key's type -/
def keyA (P : Program) (kt : TypeId) : Option TypeDesc := cond (duoB P kt) (some (.tuple #[])) (match P.underlying kt with
  | some (.int k) => some (.int k)
  | some .bool => some .bool
  | _ => none)
theorem keyA_ok {kt : TypeId} {d : TypeDesc} (h : keyA P kt = some d) : KeyT P kt d := by
  unfold keyA at h
  cases hd : duoB P kt with
  | true =>
    rw [hd] at h
    cases h
    exact keyT_duo hd
  | false =>
    rw [hd] at h
    simp only [cond_false] at h
    split at h
    · rename_i k hu
      cases h
      exact keyT_plain rfl hu
    · rename_i hu
      cases h
      exact keyT_plain rfl hu
    · cases h
end Go.Proofs.Ytggnolfcgaglfaa
