/- The call's own objects, and the world: what stands between them. -/
import Derived.Test.YtggnolfcgaglfaaSymA
import Derived.Laws.CopyOwn
import Derived.WalkSmall
import Derived.MapKept
set_option linter.unusedVariables false
set_option linter.unusedSimpArgs false
namespace Go.Proofs.Ytggnolfcgaglfaa
open Go Go.RowKit

/-- an object of the call's own: a block of just these cells; a row that grows ('wr': its elements may be written) -/
inductive Ob where
  | box (t : TypeId) (cs : List AV)
  | arr (t : TypeId) (sz : Nat) (rows : List (List AV)) (wr : Bool)
  | mp (d : TypeDesc) (es : List (Value × AV))
  | nr (t : TypeId) (cs : List AV)
abbrev Hp := List (Nat × Option Ob)
def hget : Hp → Nat → Option Ob
  | [], _ => none
  | (j, o) :: h, k => if k = j then o else hget h k
def tget : List (Nat × AV) → Nat → AV
  | [], _ => .un
  | (j, c) :: t, i => if i = j then c else tget t i
structure St where
  n : Nat
  t : List (Nat × AV)
  h : Hp

/-- the ground that a call stands on: the world as it began, the blocks of it that are the call's own, what the great names go with -/
structure Bs where
  w : World
  own : Nat → Prop
  blk : Nat → Option Nat
  sv : Nat → Value
def Bs.mine (B : Bs) (b : Nat) : Prop := B.w.heap.size ≤ b ∨ B.own b
/-- nothing has turned that is not the call's own -/
structure Bx (B : Bs) (w : World) : Prop where
  os : w.os = B.w.os
  tape : w.tape = B.w.tape
  output : w.output = B.w.output
  size : B.w.heap.size ≤ w.heap.size
  block : ∀ b, ¬ B.mine b → w.heap[b]? = B.w.heap[b]?
theorem Bx.drew {B : Bs} {w : World} (h : Bx B w) : Bx B w.drew := ⟨h.os, h.tape, h.output, h.size, h.block⟩
theorem Bx.step {B : Bs} {w w' : World} (h : Bx B w) (e1 : w'.os = w.os) (e2 : w'.tape = w.tape) (e3 : w'.output = w.output) (e4 : w.heap.size ≤ w'.heap.size) (e5 : ∀ b, ¬ B.mine b → b < w.heap.size → w'.heap[b]? = w.heap[b]?) : Bx B w' :=
  ⟨e1.trans h.os, e2.trans h.tape, e3.trans h.output, Nat.le_trans h.size e4, fun b hb => (e5 b hb (by have := h.size; unfold Bs.mine at hb; omega)).trans (h.block b hb)⟩
theorem Bx.alloc {B : Bs} {w : World} (h : Bx B w) (o : Obj) : Bx B (w.alloc o) := h.step rfl rfl rfl (by simp) fun b _ hb => Below.heap_alloc _ _ _ hb
theorem Bx.setCell {B : Bs} {w : World} (h : Bx B w) {p : Addr} (hp : B.mine p.block) (u : Value) : Bx B (w.setCell p u) :=
  h.step rfl rfl rfl (by simp [World.setCell]) fun b hb _ => Below.heap_setCell _ _ _ _ (fun e => hb (by rw [e]; exact hp))
theorem Bx.later {B : Bs} {w w' : World} (h : Bx B w) (hx : Ext w w') : Bx B w' := h.step hx.os hx.tape hx.output hx.size fun b _ hb => Below.block hx b hb
theorem Bx.mine {B : Bs} {w : World} (h : Bx B w) {b : Nat} (hb : w.heap.size ≤ b) : B.mine b := .inl (Nat.le_trans h.size hb)

def gasc : List (Nat × IntKind × List Int) → Nat → Option (IntKind × List Int)
  | [], _ => none
  | (g, p) :: l, k => cond (Nat.beq k g) (some p) (gasc l k)
/-- what stands in a table that was laid at the start -/
def GT (b o : Nat) (u : Value) : Prop := ∃ k l x, gasc gTab b = some (k, l) ∧ l[o]? = some x ∧ u = .int k x
def Good (Rd : Nat → Nat → Value → Prop) (B : Bs) : Prop := (∀ b o u, Rd b o u → B.w.cell? ⟨b, o, none⟩ = some u ∧ ¬ B.mine b) ∧ ∀ b o u, GT b o u → Rd b o u
/-- what is never written again -/
def RDx (w0 : Bs) (Rd0 : Nat → Nat → Value → Prop) (e : Env) (h : Hp) (w : World) (b o : Nat) (u : Value) : Prop :=
  w.cell? ⟨b, o, none⟩ = some u ∧ (¬ w0.mine b → Rd0 b o u) ∧ ∀ k ob, hget h k = some ob → e.blk k = some b → o < e.lent k
/-- a key of a map: of a plain kind, or a pair of whole numbers (a struct's two fields) -/
def KeyD (d : TypeDesc) (v : Value) : Prop := match d with
  | .tuple _ => ∃ a b : Int, v = .agg #[.int .i64 a, .int .i64 b]
  | d => MapKept.IsKey d v
/-- a map's entries, in the order in which their keys came -/
structure MR (Rd : Nat → Nat → Value → Prop) (d : TypeDesc) (es : List (Value × AV)) (arr : Array MapEntry) (clock : Nat) : Prop where
  len : arr.size = es.length
  key : ∀ (j : Nat) x m, es[j]? = some x → arr[j]? = some m → m.key = x.1 ∧ VR Rd none x.2 m.val
  isk : ∀ m ∈ arr.toList, KeyD d m.key
  stp : MapKept.Stamped arr clock
  brn : ∀ (j : Nat) m, arr[j]? = some m → m.born = j
  clk : clock = arr.size
theorem MR.mono {Rd Rd' : Nat → Nat → Value → Prop} (hR : ∀ b o u, Rd b o u → Rd' b o u) {d : TypeDesc} {es : List (Value × AV)} {arr : Array MapEntry} {clock : Nat} (h : MR Rd d es arr clock) : MR Rd' d es arr clock :=
  ⟨h.len, fun j x m hx hm => ⟨(h.key j x m hx hm).1, (h.key j x m hx hm).2.mono hR⟩, h.isk, h.stp, h.brn, h.clk⟩
/-- the mark of a block that goes through a map -/
def itT : TypeId := 1152921504606846975
/-- one goes through a map: which one, how many entries it had, which were met (by their places), and the last one -/
def IterIs (w : World) (b : Nat) (us : List Value) : Prop := ∃ (bm n0 mask : Nat) (cur : Int) (seen : Array Nat), us = [.map (some bm), .int .i64 (n0 : Int), .int .i64 (mask : Int), .int .i64 cur] ∧ w.heap[b]? = some (.mapIter (some bm) n0 seen n0) ∧
  (∀ j, seen.contains j = mask.testBit j) ∧ (0 ≤ cur → seen.back? = some cur.toNat)
def BoxIs (w : World) (b : Nat) (t : TypeId) (us : List Value) : Prop := (t ≠ itT ∧ w.heap[b]? = some (.cells us.toArray t (0, 0))) ∨ (t = itT ∧ IterIs w b us)
theorem BoxIs.ext {w w' : World} {b : Nat} {t : TypeId} {us : List Value} (h : BoxIs w b t us) (hw : ∀ o, w.heap[b]? = some o → w'.heap[b]? = some o) : BoxIs w' b t us := by
  rcases h with ⟨h0, h⟩ | ⟨h0, bm, n0, mask, cur, seen, h1, h, h2⟩
  · exact .inl ⟨h0, hw _ h⟩
  · exact .inr ⟨h0, bm, n0, mask, cur, seen, h1, hw _ h, h2⟩
theorem BoxIs.lt {w : World} {b : Nat} {t : TypeId} {us : List Value} (h : BoxIs w b t us) : b < w.heap.size := by
  rcases h with ⟨_, h⟩ | ⟨_, bm, n0, mask, cur, seen, _, h, _⟩
  · exact (Array.getElem?_eq_some_iff.1 h).1
  · exact (Array.getElem?_eq_some_iff.1 h).1
theorem BoxIs.same {w w' : World} {b : Nat} {t : TypeId} {us : List Value} (h : BoxIs w b t us) (hw : w'.heap[b]? = w.heap[b]?) : BoxIs w' b t us := h.ext fun o ho => by rw [hw]; exact ho
theorem BoxIs.cells {w : World} {b : Nat} {t : TypeId} {us : List Value} (h : BoxIs w b t us) (ht : t ≠ itT) : w.heap[b]? = some (.cells us.toArray t (0, 0)) := by
  rcases h with ⟨_, h⟩ | ⟨h0, _⟩
  · exact h
  · exact absurd h0 ht
def OR (Rd : Nat → Nat → Value → Prop) (e : Env) (w : World) (k : Nat) : Ob → Prop
  | .box t cs => e.lent k = 0 ∧ ∃ b us, e.blk k = some b ∧ BoxIs w b t us ∧ LR (VR Rd (some e)) cs us
  | .arr t sz rows wr => (∀ r ∈ rows, r.length = sz) ∧ (∀ c ∈ rows.flatten, c.one = true) ∧ (wr = true → e.lent k = 0) ∧
      ((rows = [] ∧ e.blk k = none ∧ ∃ a, e.sv k = .slice a 0 0) ∨
       ∃ b cap cur, e.blk k = some b ∧ e.sv k = .slice (some ⟨b, 0, none⟩) rows.length cap ∧ rows.length ≤ cap ∧ cap ≤ maxLen ∧ w.heap[b]? = some (.cells cur t (0, 0)) ∧
         cur.size = cap * sz ∧ LR (VR Rd none) rows.flatten (cur.toList.take rows.flatten.length) ∧ e.lent k ≤ rows.flatten.length)
  | .mp d es => e.lent k = 0 ∧ ∃ b arr clock, e.blk k = some b ∧ w.heap[b]? = some (.map arr clock) ∧ MR Rd d es arr clock
  | .nr t cs => e.lent k = 0 ∧ ((cs = [] ∧ e.blk k = none ∧ ∃ a, e.sv k = .slice a 0 0) ∨
       ∃ b cap cur, e.blk k = some b ∧ e.sv k = .slice (some ⟨b, 0, none⟩) cs.length cap ∧ cs.length ≤ cap ∧ cap ≤ maxLen ∧ w.heap[b]? = some (.cells cur t (0, 0)) ∧
         cur.size = cap ∧ LR (VR Rd (some e)) cs (cur.toList.take cs.length))
structure SR (w0 : Bs) (Rd0 : Nat → Nat → Value → Prop) (e : Env) (h : Hp) (w : World) : Prop where
  ext : Bx w0 w
  good : Good Rd0 w0
  ob : ∀ k ob, hget h k = some ob → OR (RDx w0 Rd0 e h w) e w k ob
  base : ∀ k ob b, hget h k = some ob → e.blk k = some b → w0.mine b ∧ b < w.heap.size
  inj : ∀ k k' ob ob' b, hget h k = some ob → hget h k' = some ob' → e.blk k = some b → e.blk k' = some b → k = k'
  pin : ∀ k, 4294967296 ≤ k → e.blk k = w0.blk k ∧ e.sv k = w0.sv k
theorem SR.glob {w0 : Bs} {Rd0 : Nat → Nat → Value → Prop} {e : Env} {h : Hp} {w : World} (hs : SR w0 Rd0 e h w) {b o : Nat} {u : Value} (hg : GT b o u) : RDx w0 Rd0 e h w b o u := by
  have h0 := hs.good.2 _ _ _ hg
  obtain ⟨h1, h2⟩ := hs.good.1 b o u h0
  refine ⟨?_, fun _ => h0, fun k ob hk hb => absurd (hs.base k ob b hk hb).1 h2⟩
  rw [← h1]
  unfold World.cell?
  rw [hs.ext.block b h2]
def TR (Rd : Nat → Nat → Value → Prop) (e : Env) (t : List (Nat × AV)) (tm : Array Value) : Prop := ∀ i, VR Rd (some e) (tget t i) (tm.getD i undef)

theorem flatten_len {rows : List (List AV)} {sz : Nat} (h : ∀ r ∈ rows, r.length = sz) : rows.flatten.length = rows.length * sz := by
  induction rows with
  | nil => simp
  | cons r rows ih =>
    rw [List.flatten_cons, List.length_append, h r (by simp), ih (fun x hx => h x (by simp [hx])), List.length_cons, Nat.add_mul]
    omega

theorem OR.mono {Rd Rd' : Nat → Nat → Value → Prop} (hR : ∀ b o u, Rd b o u → Rd' b o u) {e : Env} {w : World} {k : Nat} {ob : Ob} (h : OR Rd e w k ob) : OR Rd' e w k ob := by
  cases ob with
  | box t cs =>
    obtain ⟨h0, b, us, h1, h2, h3⟩ := h
    exact ⟨h0, b, us, h1, h2, h3.imp fun _ _ hv => hv.mono hR⟩
  | arr t sz rows wr =>
    obtain ⟨h0, h1, h2, h3⟩ := h
    refine ⟨h0, h1, h2, ?_⟩
    rcases h3 with h3 | ⟨b, cap, cur, a1, a2, a3, a4, a5, a6, a7, a8⟩
    · exact .inl h3
    · exact .inr ⟨b, cap, cur, a1, a2, a3, a4, a5, a6, a7.imp fun _ _ hv => hv.mono hR, a8⟩
  | mp d es =>
    obtain ⟨h0, b, arr, clock, h1, h2, h3⟩ := h
    exact ⟨h0, b, arr, clock, h1, h2, h3.mono hR⟩
  | nr t cs =>
    obtain ⟨h0, h3⟩ := h
    refine ⟨h0, ?_⟩
    rcases h3 with h3 | ⟨b, cap, cur, a1, a2, a3, a4, a5, a6, a7⟩
    · exact .inl h3
    · exact .inr ⟨b, cap, cur, a1, a2, a3, a4, a5, a6, a7.imp fun _ _ hv => hv.mono hR⟩

def Ob.ment (k : Nat) : Ob → Bool
  | .box _ cs => AV.mentL k cs
  | .arr .. => false
  | .mp .. => false
  | .nr _ cs => AV.mentL k cs
/-- an object that does not hang on the turned one stays what it was, where its block is the same -/
theorem OR.env {Rd : Nat → Nat → Value → Prop} {e e' : Env} {w w' : World} {k j : Nat} {ob : Ob} (h : OR Rd e w j ob) (hj : j ≠ k) (hm : ob.ment k = false ∨ (e'.blk k = e.blk k ∧ e'.sv k = e.sv k))
    (hb : ∀ i, i ≠ k → e'.blk i = e.blk i) (hs : ∀ i, i ≠ k → e'.sv i = e.sv i) (hl : ∀ i, i ≠ k → e'.lent i = e.lent i)
    (hw : ∀ b, e.blk j = some b → b < w.heap.size → w'.heap[b]? = w.heap[b]?) : OR Rd e' w' j ob := by
  cases ob with
  | box t cs =>
    obtain ⟨h0, b, us, h1, h2, h3⟩ := h
    refine ⟨by rw [hl j hj]; exact h0, b, us, by rw [hb j hj]; exact h1, ?_, h3.1, fun i c u hc hu => ?_⟩
    · exact h2.same (hw b h1 h2.lt)
    · rcases hm with hm | ⟨hm1, hm2⟩
      · exact (h3.2 i c u hc hu).env rfl k (mentL_false (by simpa [Ob.ment] using hm) i c hc) hb hs
      · exact (h3.2 i c u hc hu).envEq rfl (fun j => by by_cases hjk : j = k; · rw [hjk]; exact hm1
                                                        · exact hb j hjk) (fun j => by by_cases hjk : j = k; · rw [hjk]; exact hm2
                                                                                       · exact hs j hjk)
  | arr t sz rows wr =>
    obtain ⟨h0, h1, h2, h3⟩ := h
    refine ⟨h0, h1, fun hwr => by rw [hl j hj]; exact h2 hwr, ?_⟩
    rcases h3 with ⟨a1, a2, a3⟩ | ⟨b, cap, cur, a1, a2, a3, a4, a5, a6, a7, a8⟩
    · exact .inl ⟨a1, by rw [hb j hj]; exact a2, by rw [hs j hj]; exact a3⟩
    · refine .inr ⟨b, cap, cur, by rw [hb j hj]; exact a1, by rw [hs j hj]; exact a2, a3, a4, ?_, a6, a7, by rw [hl j hj]; exact a8⟩
      rw [hw b a1 (Array.getElem?_eq_some_iff.1 a5).1]; exact a5
  | mp d es =>
    obtain ⟨h0, b, arr, clock, h1, h2, h3⟩ := h
    exact ⟨by rw [hl j hj]; exact h0, b, arr, clock, by rw [hb j hj]; exact h1, by rw [hw b h1 (Array.getElem?_eq_some_iff.1 h2).1]; exact h2, h3⟩
  | nr t cs =>
    obtain ⟨h0, h3⟩ := h
    refine ⟨by rw [hl j hj]; exact h0, ?_⟩
    rcases h3 with ⟨a1, a2, a3⟩ | ⟨b, cap, cur, a1, a2, a3, a4, a5, a6, a7⟩
    · exact .inl ⟨a1, by rw [hb j hj]; exact a2, by rw [hs j hj]; exact a3⟩
    · refine .inr ⟨b, cap, cur, by rw [hb j hj]; exact a1, by rw [hs j hj]; exact a2, a3, a4, ?_, a6, ⟨a7.1, fun i c u hc hu => ?_⟩⟩
      · rw [hw b a1 (Array.getElem?_eq_some_iff.1 a5).1]; exact a5
      · rcases hm with hm | ⟨hm1, hm2⟩
        · exact (a7.2 i c u hc hu).env rfl k (mentL_false (by simpa [Ob.ment] using hm) i c hc) hb hs
        · exact (a7.2 i c u hc hu).envEq rfl (fun j => by by_cases hjk : j = k; · rw [hjk]; exact hm1
                                                          · exact hb j hjk) (fun j => by by_cases hjk : j = k; · rw [hjk]; exact hm2
                                                                                         · exact hs j hjk)

/-- the environment with one object turned -/
def Env.upd (e : Env) (k : Nat) (b : Option Nat) (s : Value) (l : Nat) : Env :=
  ⟨fun i => if i = k then b else e.blk i, fun i => if i = k then s else e.sv i, fun i => if i = k then l else e.lent i⟩
theorem Env.upd_blk {e : Env} {k : Nat} {b : Option Nat} {s : Value} {l : Nat} : (e.upd k b s l).blk k = b := by simp [Env.upd]
theorem Env.upd_sv {e : Env} {k : Nat} {b : Option Nat} {s : Value} {l : Nat} : (e.upd k b s l).sv k = s := by simp [Env.upd]
theorem Env.upd_lent {e : Env} {k : Nat} {b : Option Nat} {s : Value} {l : Nat} : (e.upd k b s l).lent k = l := by simp [Env.upd]
theorem Env.upd_blk' {e : Env} {k : Nat} {b : Option Nat} {s : Value} {l i : Nat} (h : i ≠ k) : (e.upd k b s l).blk i = e.blk i := by simp [Env.upd, h]
theorem Env.upd_sv' {e : Env} {k : Nat} {b : Option Nat} {s : Value} {l i : Nat} (h : i ≠ k) : (e.upd k b s l).sv i = e.sv i := by simp [Env.upd, h]
theorem Env.upd_lent' {e : Env} {k : Nat} {b : Option Nat} {s : Value} {l i : Nat} (h : i ≠ k) : (e.upd k b s l).lent i = e.lent i := by simp [Env.upd, h]

theorem hget_same {h : Hp} {k : Nat} {o : Option Ob} : hget ((k, o) :: h) k = o := by simp [hget]
theorem hget_other {h : Hp} {k j : Nat} {o : Option Ob} (hj : j ≠ k) : hget ((k, o) :: h) j = hget h j := by simp [hget, hj]

/-- no object hangs on k -/
def hnom (k : Nat) (h : Hp) : Bool := h.all fun p => match p.2 with | some ob => !ob.ment k | none => true
def tnom (k : Nat) (t : List (Nat × AV)) : Bool := t.all fun p => !p.2.ment k
theorem hnom_get {k : Nat} : ∀ {h : Hp}, hnom k h = true → ∀ j ob, hget h j = some ob → ob.ment k = false
  | [], _, j, ob, hg => by simp [hget] at hg
  | (i, o) :: h, hn, j, ob, hg => by
    simp only [hnom, List.all_cons, Bool.and_eq_true] at hn
    by_cases hj : j = i
    · subst hj
      rw [hget_same] at hg
      subst hg
      simpa using hn.1
    · rw [hget_other hj] at hg
      exact hnom_get (by simpa [hnom] using hn.2) j ob hg
theorem tnom_get {k : Nat} : ∀ {t : List (Nat × AV)}, tnom k t = true → ∀ j, (tget t j).ment k = false
  | [], _, j => by simp [tget, AV.ment]
  | (i, c) :: t, hn, j => by
    simp only [tnom, List.all_cons, Bool.and_eq_true] at hn
    by_cases hj : j = i
    · subst hj; simp [tget]; simpa using hn.1
    · simp only [tget, hj, if_false]; exact tnom_get (by simpa [tnom] using hn.2) j

/-- ONE OBJECT TURNS (or comes, or goes): object k reads anew as 'ob'; the world is another one, but for the blocks of the other objects and what is never written again. -/
theorem SR.turn {w0 : Bs} {w w' : World} {Rd0 : Nat → Nat → Value → Prop} {e : Env} {h : Hp} (hs : SR w0 Rd0 e h w) (k : Nat) (nb : Option Nat) (s : Value) (l : Nat) (no : Option Ob)
    (hext : Bx w0 w') (hnom : (hnom k h = true ∧ k < 4294967296) ∨ (nb = e.blk k ∧ s = e.sv k))
    (hsize : w.heap.size ≤ w'.heap.size)
    (hother : ∀ b, b < w.heap.size → (∀ ob, hget h k = some ob → e.blk k ≠ some b) → w'.heap[b]? = w.heap[b]?)
    (hnb : ∀ b, nb = some b → no ≠ none → w0.mine b ∧ b < w'.heap.size ∧ ((∃ ob, hget h k = some ob ∧ e.blk k = some b) ∨ w.heap.size ≤ b))
    (hkeep : ∀ b o u ob, hget h k = some ob → e.blk k = some b → o < e.lent k → w.cell? ⟨b, o, none⟩ = some u → w'.cell? ⟨b, o, none⟩ = some u ∧ (no ≠ none → nb = some b → o < l))
    (hob : ∀ (Rd : Nat → Nat → Value → Prop), (∀ b o u, RDx w0 Rd0 e h w b o u → Rd b o u) → (∀ b o u, w'.cell? ⟨b, o, none⟩ = some u → (∀ ob, hget h k = some ob → e.blk k = some b → no = none ∨ nb ≠ some b) → b < w.heap.size → (∃ ob, hget h k = some ob ∧ e.blk k = some b) → Rd b o u) → ∀ ob', no = some ob' → OR Rd (e.upd k nb s l) w' k ob') :
    SR w0 Rd0 (e.upd k nb s l) ((k, no) :: h) w' ∧ ∀ b o u, RDx w0 Rd0 e h w b o u → RDx w0 Rd0 (e.upd k nb s l) ((k, no) :: h) w' b o u := by
  have hRD : ∀ b o u, RDx w0 Rd0 e h w b o u → RDx w0 Rd0 (e.upd k nb s l) ((k, no) :: h) w' b o u := by
    rintro b o u ⟨h1, h2, h3⟩
    have hblt : b < w.heap.size := World.block_lt_of_cell? w _ h1
    have hcell : w'.cell? ⟨b, o, none⟩ = some u ∧ (no ≠ none → nb = some b → o < l) := by
      by_cases hk : ∃ ob, hget h k = some ob ∧ e.blk k = some b
      · obtain ⟨ob, ho, hb⟩ := hk
        exact hkeep b o u ob ho hb (h3 k ob ho hb) h1
      · have hne : ∀ ob, hget h k = some ob → e.blk k ≠ some b := fun ob ho hb => hk ⟨ob, ho, hb⟩
        refine ⟨by rw [World.cell?_of_block (w := w) (hother b hblt hne)]; exact h1, fun hno hnbb => ?_⟩
        rcases (hnb b hnbb hno).2.2 with hh | hh
        · exact absurd hh hk
        · omega
    refine ⟨hcell.1, h2, fun j ob hj hb => ?_⟩
    by_cases hjk : j = k
    · subst hjk
      rw [hget_same] at hj
      rw [Env.upd_blk] at hb
      rw [Env.upd_lent]
      exact hcell.2 (by rw [hj]; simp) hb
    · rw [hget_other hjk] at hj
      rw [Env.upd_blk' hjk] at hb
      rw [Env.upd_lent' hjk]
      exact h3 j ob hj hb
  refine ⟨⟨hext, hs.good, fun j ob hj => ?_, fun j ob b hj hb => ?_, fun j j' ob ob' b hj hj' hb hb' => ?_, fun j hj => ?_⟩, hRD⟩
  · by_cases hjk : j = k
    · subst hjk
      rw [hget_same] at hj
      refine hob _ hRD (fun b o u hc hnn hblt hk => ?_) ob hj
      obtain ⟨ob0, ho, hb0⟩ := hk
      refine ⟨hc, fun hlt => ?_, fun i obi hi hbi => ?_⟩
      · exact absurd (hs.base _ _ _ ho hb0).1 hlt
      · by_cases hik : i = j
        · subst hik
          rw [hget_same] at hi
          rw [Env.upd_blk] at hbi
          rcases hnn ob0 ho hb0 with h | h
          · rw [h] at hi; cases hi
          · exact absurd hbi h
        · rw [hget_other hik] at hi
          rw [Env.upd_blk' hik] at hbi
          exact absurd (hs.inj _ _ _ _ _ hi ho hbi hb0) hik
    · rw [hget_other hjk] at hj
      refine ((hs.ob j ob hj).env (w' := w') hjk (hnom.imp (fun hn => hnom_get hn.1 j ob hj) (fun hn => ⟨by rw [Env.upd_blk]; exact hn.1, by rw [Env.upd_sv]; exact hn.2⟩)) (fun _ hi => Env.upd_blk' hi) (fun _ hi => Env.upd_sv' hi) (fun _ hi => Env.upd_lent' hi) fun b hb hlt => ?_).mono hRD
      exact hother b hlt fun ob0 ho hb0 => hjk (hs.inj _ _ _ _ _ hj ho hb hb0)
  · by_cases hjk : j = k
    · subst hjk
      rw [hget_same] at hj
      rw [Env.upd_blk] at hb
      have := hnb b hb (by rw [hj]; simp)
      exact ⟨this.1, this.2.1⟩
    · rw [hget_other hjk] at hj
      rw [Env.upd_blk' hjk] at hb
      have := hs.base j ob b hj hb
      exact ⟨this.1, by omega⟩
  · by_cases hjk : j = k
    · by_cases hjk' : j' = k
      · rw [hjk, hjk']
      · subst hjk
        rw [hget_same] at hj
        rw [hget_other hjk'] at hj'
        rw [Env.upd_blk] at hb
        rw [Env.upd_blk' hjk'] at hb'
        rcases (hnb b hb (by rw [hj]; simp)).2.2 with ⟨ob0, ho, hb0⟩ | hh
        · exact absurd (hs.inj _ _ _ _ _ hj' ho hb' hb0) hjk'
        · have := (hs.base _ _ _ hj' hb').2; omega
    · rw [hget_other hjk] at hj
      rw [Env.upd_blk' hjk] at hb
      by_cases hjk' : j' = k
      · subst hjk'
        rw [hget_same] at hj'
        rw [Env.upd_blk] at hb'
        rcases (hnb b hb' (by rw [hj']; simp)).2.2 with ⟨ob0, ho, hb0⟩ | hh
        · exact hs.inj _ _ _ _ _ hj ho hb hb0
        · have := (hs.base _ _ _ hj hb).2; omega
      · rw [hget_other hjk'] at hj'
        rw [Env.upd_blk' hjk'] at hb'
        exact hs.inj _ _ _ _ _ hj hj' hb hb'
  · have hp := hs.pin j hj
    by_cases hjk : j = k
    · subst hjk
      rw [Env.upd_blk, Env.upd_sv]
      rcases hnom with hn | hn
      · omega
      · rw [hn.1, hn.2]; exact hp
    · rw [Env.upd_blk' hjk, Env.upd_sv' hjk]; exact hp

theorem TR.mono {Rd Rd' : Nat → Nat → Value → Prop} {e : Env} {t : List (Nat × AV)} {tm : Array Value} (h : TR Rd e t tm) (hR : ∀ b o u, Rd b o u → Rd' b o u) : TR Rd' e t tm := fun i => (h i).mono hR
theorem TR.env {Rd : Nat → Nat → Value → Prop} {e e' : Env} {t : List (Nat × AV)} {tm : Array Value} (h : TR Rd e t tm) (k : Nat) (hm : tnom k t = true)
    (hb : ∀ j, j ≠ k → e'.blk j = e.blk j) (hs : ∀ j, j ≠ k → e'.sv j = e.sv j) : TR Rd e' t tm := fun i => (h i).env rfl k (tnom_get hm i) hb hs
theorem TR.put {Rd : Nat → Nat → Value → Prop} {e : Env} {t : List (Nat × AV)} {tm : Array Value} (h : TR Rd e t tm) {d : Nat} {c : AV} {v : Value} (hd : d < tm.size) (hv : VR Rd (some e) c v) :
    TR Rd e ((d, c) :: t) (tm.setIfInBounds d v) := by
  intro i
  by_cases hi : i = d
  · subst hi
    simp [tget, hd]; exact hv
  · have : (tm.setIfInBounds d v).getD i undef = tm.getD i undef := by
      simp only [Array.getD_eq_getD_getElem?, Array.getElem?_setIfInBounds]
      rw [if_neg (by omega)]
    rw [this]
    simp only [tget, hi, if_false]
    exact h i
end Go.Proofs.Ytggnolfcgaglfaa
