/- WholeSteps: the seat's texts as one (1 of 24; printed by wip/prune.py). -/
import Derived.Test.YtpccioglcgobkaaGreatDoorRows
import Derived.WalkKit
import Derived.Lib.Hide
import Derived.Deep.Draws
import Derived.Laws.CopyOwn
import Derived.WalkSmall
import Derived.MapKept
import Derived.ChangeKeysEq
import Derived.Deep.Quiet
import Derived.LoopNIn
import Derived.OrdersIn
import Derived.TacticsIn
import Derived.RangeFuncCalls
import Derived.RangeFuncRecord
import Derived.Scope
import Derived.LoopN
import Derived.Great.BuildSlice
import Derived.Laws.MakeOwn
import Derived.StillTail
import Derived.Carry
import Derived.Lib.SliceRun
import Derived.Laws.IdiomRangeMap
import Derived.RangeFuncMany
import Derived.Laws.StructEq
import Derived.KernelRfl
import Derived.ProofKit
import Derived.OpenShut
import Derived.Lib.LaidTab
import Derived.Deep.DeepHandedRow
import Derived.Test.YtpccioglcgobkaaGreatDoorCards
import Derived.Test.YtpccioglcgobkaaGreatDoorTie
import Derived.Recover
import Derived.Lib.AppendZeros
import Derived.Defers
import Derived.Test.YtpccioglcgobkaaGreatDoorProg
set_option linter.unusedVariables false
set_option linter.unusedSimpArgs false
namespace Go.Proofs.YtpccioglcgobkaaGreatDoor
noncomputable section
open Go Go.RowKit
def Ext (w w' : World) : Prop := Below w.heap.size w w'
theorem Ext.refl (w : World) : Ext w w := Below.refl _ _
theorem Ext.trans {a b c : World} (h : Ext a b) (k : Ext b c) : Ext a c := Below.trans h (Below.mono k h.size)
theorem Ext.size {a b : World} (h : Ext a b) : a.heap.size ≤ b.heap.size := Below.size h
theorem Ext.drew {a w : World} (h : Ext a w) : Ext a w.drew := Below.drew h
theorem Ext.drewN {a w : World} (h : Ext a w) (n : Nat) : Ext a (w.drewN n) := ⟨h.os, h.tape, h.output, h.size, h.block⟩
theorem Ext.alloc {a w : World} (h : Ext a w) (o : Obj) : Ext a (w.alloc o) := Below.alloc h h.size o
theorem Ext.setCell {a w : World} (h : Ext a w) {p : Addr} (hp : a.heap.size ≤ p.block) (u : Value) : Ext a (w.setCell p u) := Below.setCell h hp u
theorem Ext.cell {a b : World} (h : Ext a b) {p : Addr} {v : Value} (hv : a.cell? p = some v) : b.cell? p = some v :=
 (Below.cell h (World.block_lt_of_cell? a p hv)).trans hv
theorem Ext.block {a b : World} (h : Ext a b) {k : Nat} {o : Obj} (hv : a.heap[k]? = some o) : b.heap[k]? = some o :=
 (Below.block h k (Array.getElem?_eq_some_iff.1 hv).1).trans hv
end
noncomputable section
open Go Go.RowKit
def gTab : List (Nat × IntKind × List Int) := [(0, (.u8, [0, 1, 28, 2, 29, 14, 24, 3, 30, 22, 20, 15, 25, 17, 4, 8, 31, 27, 13, 23, 21, 19, 16, 7, 26, 12, 18, 6, 11, 5, 10, 9]))]
def gNr : List (Nat × Nat) := [(40, 29)]
def bwTab : List Nat := []
end
noncomputable section
open Go Go.RowKit
inductive AV where
 | un
 | v (x : Value)
 | sl (tight : Bool) (sz : Nat) (rows : List (List AV))
 | ow (k : Nat)
 | pt (k o : Nat)
 | pe (k i sz o : Nat)
 | sw (k l n sz : Nat)
 | fp (cs : List AV)
 | ag (cs : List AV)
 | tu (vs : List AV)
 | mp (k : Nat)
 | cl (fn : Fn) (fs cs : List AV)
instance : Inhabited AV := ⟨.un⟩
structure Env where
 blk : Nat → Option Nat
 sv : Nat → Value
 lent : Nat → Nat
def LR {α : Type} (R : α → Value → Prop) (cs : List α) (us : List Value) : Prop := us.length = cs.length ∧ ∀ (j : Nat) c u, cs[j]? = some c → us[j]? = some u → R c u
def AV.one : AV → Bool
 | .v x => x.oneCell'
 | .sl .. | .ow _ | .pt .. | .pe .. | .sw .. | .fp _ | .mp _ | .cl .. => true
 | .un | .ag _ | .tu _ => false
inductive VR (Rd : Nat → Nat → Value → Prop) : Option Env → AV → Value → Prop
 | un {E x} : VR Rd E .un x
 | v {E x} : VR Rd E (.v x) x
 | sl {E tight sz rows a cap} (us : List Value) (hw : ∀ r ∈ rows, r.length = sz) (h1c : ∀ c ∈ rows.flatten, c.one = true) (hl : us.length = rows.flatten.length)
  (hc : ∀ (j : Nat) c u, rows.flatten[j]? = some c → us[j]? = some u → VR Rd none c u) (h1 : rows.length ≤ cap) (h2 : cap ≤ maxLen) (h3 : tight = true → cap = rows.length)
  (ha : us ≠ [] → ∃ b o, a = some ⟨b, o, none⟩ ∧ ∀ (j : Nat) u, us[j]? = some u → Rd b (o + j) u) : VR Rd E (.sl tight sz rows) (.slice a rows.length cap)
 | ow {e k} : VR Rd (some e) (.ow k) (e.sv k)
 | pt {e k o b} (h : e.blk k = some b) : VR Rd (some e) (.pt k o) (.pointer (some ⟨b, o, none⟩))
 | pe {e k i sz o b} (h : e.blk k = some b) : VR Rd (some e) (.pe k i sz o) (.pointer (some ⟨b, i * sz + o, none⟩))
 | sw {e k l n sz b o cap} (h : e.blk k = some b) (ho : 0 < n → o = l * sz) (h1 : n ≤ cap) (h2 : cap ≤ maxLen) : VR Rd (some e) (.sw k l n sz) (.slice (some ⟨b, o, none⟩) n cap)
 | fp {E cs b o} (us : List Value) (hl : us.length = cs.length) (hc : ∀ (j : Nat) c u, cs[j]? = some c → us[j]? = some u → VR Rd none c u)
  (ha : ∀ (j : Nat) u, us[j]? = some u → Rd b (o + j) u) : VR Rd E (.fp cs) (.pointer (some ⟨b, o, none⟩))
 | ag {E cs} (us : List Value) (hl : us.length = cs.length) (hc : ∀ (j : Nat) c u, cs[j]? = some c → us[j]? = some u → VR Rd E c u) : VR Rd E (.ag cs) (.agg us.toArray)
 | tu {E cs} (us : List Value) (hl : us.length = cs.length) (hc : ∀ (j : Nat) c u, cs[j]? = some c → us[j]? = some u → VR Rd E c u) : VR Rd E (.tu cs) (.tuple us.toArray)
 | mp {e k b} (h : e.blk k = some b) : VR Rd (some e) (.mp k) (.map (some b))
 | cl {E fn fs cs} (us xs : List Value) (hl : us.length = fs.length) (hl2 : xs.length = cs.length) (hc : ∀ (j : Nat) c u, fs[j]? = some c → us[j]? = some u → VR Rd E c u)
  (hc2 : ∀ (j : Nat) c u, cs[j]? = some c → xs[j]? = some u → VR Rd E c u) : VR Rd E (.cl fn fs cs) (.func fn us.toArray xs.toArray)
theorem VR.mono {Rd Rd' : Nat → Nat → Value → Prop} (hR : ∀ b o u, Rd b o u → Rd' b o u) {E : Option Env} {c : AV} {u : Value} (h : VR Rd E c u) : VR Rd' E c u := by
 induction h with
 | un => exact .un
 | v => exact .v
 | sl us hw h1c hl hc h1 h2 h3 ha ih =>
  refine .sl us hw h1c hl ih h1 h2 h3 fun hne => ?_
  obtain ⟨b, o, rfl, h⟩ := ha hne
  exact ⟨b, o, rfl, fun j u hj => hR _ _ _ (h j u hj)⟩
 | ow => exact .ow
 | pt h => exact .pt h
 | pe h => exact .pe h
 | sw h ho h1 h2 => exact .sw h ho h1 h2
 | fp us hl hc ha ih => exact .fp us hl ih fun j u hj => hR _ _ _ (ha j u hj)
 | ag us hl hc ih => exact .ag us hl ih
 | tu us hl hc ih => exact .tu us hl ih
 | mp h => exact .mp h
 | cl us xs hl hl2 hc hc2 ih ih2 => exact .cl us xs hl hl2 ih ih2
theorem VR.some_of_none {Rd : Nat → Nat → Value → Prop} {E : Option Env} {c : AV} {u : Value} (h : VR Rd none c u) : VR Rd E c u := by
 generalize hE : (none : Option Env) = E0 at h
 induction h with
 | un => exact .un
 | v => exact .v
 | sl us hw h1c hl hc h1 h2 h3 ha ih => exact .sl us hw h1c hl hc h1 h2 h3 ha
 | ow => cases hE
 | pt h => cases hE
 | pe h => cases hE
 | sw h => cases hE
 | fp us hl hc ha ih => exact .fp us hl hc ha
 | ag us hl hc ih => exact .ag us hl fun j c u h1 h2 => ih j c u h1 h2 hE
 | tu us hl hc ih => exact .tu us hl fun j c u h1 h2 => ih j c u h1 h2 hE
 | mp h => cases hE
 | cl us xs hl hl2 hc hc2 ih ih2 => exact .cl us xs hl hl2 (fun j c u h1 h2 => ih j c u h1 h2 hE) (fun j c u h1 h2 => ih2 j c u h1 h2 hE)
mutual
def AV.ment (k : Nat) : AV → Bool
 | .ow j => j == k
 | .pt j _ => j == k
 | .pe j _ _ _ => j == k
 | .sw j _ _ _ => j == k
 | .mp j => j == k
 | .ag cs => AV.mentL k cs
 | .tu cs => AV.mentL k cs
 | .cl _ fs cs => AV.mentL k fs || AV.mentL k cs
 | _ => false
def AV.mentL (k : Nat) : List AV → Bool
 | [] => false
 | c :: cs => AV.ment k c || AV.mentL k cs
end
theorem mentL_false {k : Nat} : ∀ {cs : List AV}, AV.mentL k cs = false → ∀ (j : Nat) c, cs[j]? = some c → c.ment k = false
 | [], _, j, c, h => by simp at h
 | x :: cs, hm, j, c, h => by
  simp only [AV.mentL, Bool.or_eq_false_iff] at hm
  cases j with
  | zero => simp at h; exact h ▸ hm.1
  | succ j => exact mentL_false hm.2 j c (by simpa using h)
theorem VR.env {Rd : Nat → Nat → Value → Prop} {E : Option Env} {c : AV} {u : Value} (h : VR Rd E c u) {e e' : Env} (hE : E = some e) (k : Nat) (hm : c.ment k = false)
 (hb : ∀ j, j ≠ k → e'.blk j = e.blk j) (hs : ∀ j, j ≠ k → e'.sv j = e.sv j) : VR Rd (some e') c u := by
 induction h with
 | un => exact .un
 | v => exact .v
 | sl us hw h1c hl hc h1 h2 h3 ha ih => exact .sl us hw h1c hl hc h1 h2 h3 ha
 | @ow e0 j =>
  cases hE
  have hj : j ≠ k := by simpa [AV.ment] using hm
  rw [← hs j hj]; exact .ow
 | @pt e0 j o b h =>
  cases hE
  have hj : j ≠ k := by simpa [AV.ment] using hm
  exact .pt (by rw [hb j hj]; exact h)
 | @pe e0 j i sz o b h =>
  cases hE
  have hj : j ≠ k := by simpa [AV.ment] using hm
  exact .pe (by rw [hb j hj]; exact h)
 | @sw e0 j l n sz b o cap h ho h1 h2 =>
  cases hE
  have hj : j ≠ k := by simpa [AV.ment] using hm
  exact .sw (by rw [hb j hj]; exact h) ho h1 h2
 | fp us hl hc ha ih => exact .fp us hl hc ha
 | @ag E0 cs us hl hc ih => exact .ag us hl fun j c u h1 h2 => ih j c u h1 h2 hE (mentL_false (by simpa [AV.ment] using hm) j c h1)
 | @tu E0 cs us hl hc ih => exact .tu us hl fun j c u h1 h2 => ih j c u h1 h2 hE (mentL_false (by simpa [AV.ment] using hm) j c h1)
 | @mp e0 j b h =>
  cases hE
  have hj : j ≠ k := by simpa [AV.ment] using hm
  exact .mp (by rw [hb j hj]; exact h)
 | @cl E0 fn fs cs us xs hl hl2 hc hc2 ih ih2 =>
  simp only [AV.ment, Bool.or_eq_false_iff] at hm
  exact .cl us xs hl hl2 (fun j c u h1 h2 => ih j c u h1 h2 hE (mentL_false hm.1 j c h1)) (fun j c u h1 h2 => ih2 j c u h1 h2 hE (mentL_false hm.2 j c h1))
theorem VR.envEq {Rd : Nat → Nat → Value → Prop} {E : Option Env} {c : AV} {u : Value} (h : VR Rd E c u) {e e' : Env} (hE : E = some e) (hb : ∀ j, e'.blk j = e.blk j) (hs : ∀ j, e'.sv j = e.sv j) : VR Rd (some e') c u := by
 induction h with
 | un => exact .un
 | v => exact .v
 | sl us hw h1c hl hc h1 h2 h3 ha ih => exact .sl us hw h1c hl hc h1 h2 h3 ha
 | @ow e0 j => cases hE; rw [← hs j]; exact .ow
 | @pt e0 j o b h => cases hE; exact .pt (by rw [hb j]; exact h)
 | @pe e0 j i sz o b h => cases hE; exact .pe (by rw [hb j]; exact h)
 | @sw e0 j l n sz b o cap h ho h1 h2 => cases hE; exact .sw (by rw [hb j]; exact h) ho h1 h2
 | fp us hl hc ha ih => exact .fp us hl hc ha
 | ag us hl hc ih => exact .ag us hl fun j c u h1 h2 => ih j c u h1 h2 hE
 | tu us hl hc ih => exact .tu us hl fun j c u h1 h2 => ih j c u h1 h2 hE
 | @mp e0 j b h => cases hE; exact .mp (by rw [hb j]; exact h)
 | cl us xs hl hl2 hc hc2 ih ih2 => exact .cl us xs hl hl2 (fun j c u h1 h2 => ih j c u h1 h2 hE) (fun j c u h1 h2 => ih2 j c u h1 h2 hE)
theorem VR.oneCell {Rd : Nat → Nat → Value → Prop} {E : Option Env} {c : AV} {u : Value} (h : VR Rd E c u) (h1 : c.one = true) (hs : ∀ e k, E = some e → c = .ow k → (e.sv k).oneCell' = true) : u.oneCell' = true := by
 cases h with
 | un => simp [AV.one] at h1
 | v => simpa [AV.one] using h1
 | sl => rfl
 | ow => exact hs _ _ rfl rfl
 | pt => rfl
 | pe => rfl
 | sw => rfl
 | fp => rfl
 | ag => simp [AV.one] at h1
 | tu => simp [AV.one] at h1
 | mp => rfl
 | cl => rfl
theorem LR.get {α : Type} {R : α → Value → Prop} {cs : List α} {us : List Value} (h : LR R cs us) {j : Nat} {c : α} (hc : cs[j]? = some c) : ∃ u, us[j]? = some u ∧ R c u := by
 have hj : j < us.length := by rw [h.1]; exact (List.getElem?_eq_some_iff.1 hc).1
 exact ⟨us[j], List.getElem?_eq_getElem hj, h.2 j c _ hc (List.getElem?_eq_getElem hj)⟩
theorem LR.imp {α : Type} {R R' : α → Value → Prop} {cs : List α} {us : List Value} (h : LR R cs us) (hr : ∀ c u, R c u → R' c u) : LR R' cs us := ⟨h.1, fun j c u h1 h2 => hr _ _ (h.2 j c u h1 h2)⟩
theorem LR.nil {α : Type} {R : α → Value → Prop} : LR R [] [] := ⟨rfl, by simp⟩
theorem LR.cons {α : Type} {R : α → Value → Prop} {c : α} {u : Value} {cs : List α} {us : List Value} (h : R c u) (hs : LR R cs us) : LR R (c :: cs) (u :: us) :=
 ⟨by simp [hs.1], fun j c' u' h1 h2 => by
  cases j with
  | zero => simp at h1 h2; subst h1; subst h2; exact h
  | succ j => exact hs.2 j c' u' (by simpa using h1) (by simpa using h2)⟩
theorem LR.append {α : Type} {R : α → Value → Prop} {cs ds : List α} {us xs : List Value} (h : LR R cs us) (k : LR R ds xs) : LR R (cs ++ ds) (us ++ xs) := by
 refine ⟨by simp [h.1, k.1], fun j c u h1 h2 => ?_⟩
 by_cases hj : j < cs.length
 · rw [List.getElem?_append_left hj] at h1
   rw [List.getElem?_append_left (by rw [h.1]; exact hj)] at h2
   exact h.2 j c u h1 h2
 · rw [List.getElem?_append_right (by omega)] at h1
   rw [List.getElem?_append_right (by rw [h.1]; omega), h.1] at h2
   exact k.2 _ c u h1 h2
theorem LR.take {α : Type} {R : α → Value → Prop} {cs : List α} {us : List Value} (h : LR R cs us) (n : Nat) : LR R (cs.take n) (us.take n) := by
 refine ⟨by simp [h.1], fun j c u h1 h2 => ?_⟩
 rw [List.getElem?_take] at h1 h2
 split at h1
 · rename_i hj; simp [hj] at h2; exact h.2 j c u h1 h2
 · cases h1
theorem LR.drop {α : Type} {R : α → Value → Prop} {cs : List α} {us : List Value} (h : LR R cs us) (n : Nat) : LR R (cs.drop n) (us.drop n) := by
 refine ⟨by simp [h.1], fun j c u h1 h2 => ?_⟩
 rw [List.getElem?_drop] at h1 h2
 exact h.2 _ c u h1 h2
theorem LR.set {α : Type} {R : α → Value → Prop} {cs : List α} {us : List Value} (h : LR R cs us) (j : Nat) {c : α} {u : Value} (hu : R c u) : LR R (cs.set j c) (us.set j u) := by
 refine ⟨by simp [h.1], fun i c' u' h1 h2 => ?_⟩
 rw [List.getElem?_set] at h1 h2
 rw [h.1] at h2
 by_cases hij : j = i
 · subst hij
   by_cases hl : j < cs.length
   · simp [hl] at h1 h2; subst h1; subst h2; exact hu
   · simp [hl] at h1
 · simp [hij] at h1 h2; exact h.2 i c' u' h1 h2
theorem VR.ag_inv {Rd : Nat → Nat → Value → Prop} {E : Option Env} {cs : List AV} {u : Value} (h : VR Rd E (.ag cs) u) : ∃ us, u = .agg us.toArray ∧ LR (VR Rd E) cs us := by
 cases h with
 | ag us hl hc => exact ⟨us, rfl, hl, hc⟩
theorem VR.tu_inv {Rd : Nat → Nat → Value → Prop} {E : Option Env} {cs : List AV} {u : Value} (h : VR Rd E (.tu cs) u) : ∃ us, u = .tuple us.toArray ∧ LR (VR Rd E) cs us := by
 cases h with
 | tu us hl hc => exact ⟨us, rfl, hl, hc⟩
theorem VR.v_inv {Rd : Nat → Nat → Value → Prop} {E : Option Env} {x u : Value} (h : VR Rd E (.v x) u) : u = x := by
 cases h; rfl
end
noncomputable section
open Go Go.RowKit
inductive Ob where
 | box (t : TypeId) (cs : List AV)
 | arr (t : TypeId) (sz : Nat) (rows : List (List AV)) (wr : Bool)
 | mp (d : TypeDesc) (es : List (Value × AV))
 | nr (t : TypeId) (cs : List AV)
abbrev Hp := List (Nat × Option Ob)
def hget : Hp → Nat → Option Ob
 | [], _ => none
 | (j, o) :: h, k => if k = j then o else hget h k
def tget : List (Nat × AV) → Nat → AV
 | [], _ => .un
 | (j, c) :: t, i => if i = j then c else tget t i
structure St where
 n : Nat
 t : List (Nat × AV)
 h : Hp
structure Bs where
 w : World
 own : Nat → Prop
 blk : Nat → Option Nat
 sv : Nat → Value
 df : List Deferred
def Bs.mine (B : Bs) (b : Nat) : Prop := B.w.heap.size ≤ b ∨ B.own b
structure Bx (B : Bs) (w : World) : Prop where
 os : w.os = B.w.os
 tape : w.tape = B.w.tape
 output : w.output = B.w.output
 size : B.w.heap.size ≤ w.heap.size
 block : ∀ b, ¬ B.mine b → w.heap[b]? = B.w.heap[b]?
theorem Bx.drew {B : Bs} {w : World} (h : Bx B w) : Bx B w.drew := ⟨h.os, h.tape, h.output, h.size, h.block⟩
theorem Bx.step {B : Bs} {w w' : World} (h : Bx B w) (e1 : w'.os = w.os) (e2 : w'.tape = w.tape) (e3 : w'.output = w.output) (e4 : w.heap.size ≤ w'.heap.size) (e5 : ∀ b, ¬ B.mine b → b < w.heap.size → w'.heap[b]? = w.heap[b]?) : Bx B w' :=
 ⟨e1.trans h.os, e2.trans h.tape, e3.trans h.output, Nat.le_trans h.size e4, fun b hb => (e5 b hb (by have := h.size; unfold Bs.mine at hb; omega)).trans (h.block b hb)⟩
theorem Bx.alloc {B : Bs} {w : World} (h : Bx B w) (o : Obj) : Bx B (w.alloc o) := h.step rfl rfl rfl (by simp) fun b _ hb => Below.heap_alloc _ _ _ hb
theorem Bx.setCell {B : Bs} {w : World} (h : Bx B w) {p : Addr} (hp : B.mine p.block) (u : Value) : Bx B (w.setCell p u) :=
 h.step rfl rfl rfl (by simp [World.setCell]) fun b hb _ => Below.heap_setCell _ _ _ _ (fun e => hb (by rw [e]; exact hp))
theorem Bx.later {B : Bs} {w w' : World} (h : Bx B w) (hx : Ext w w') : Bx B w' := h.step hx.os hx.tape hx.output hx.size fun b _ hb => Below.block hx b hb
theorem Bx.mine {B : Bs} {w : World} (h : Bx B w) {b : Nat} (hb : w.heap.size ≤ b) : B.mine b := .inl (Nat.le_trans h.size hb)
def gasc : List (Nat × IntKind × List Int) → Nat → Option (IntKind × List Int)
 | [], _ => none
 | (g, p) :: l, k => cond (Nat.beq k g) (some p) (gasc l k)
def GT (b o : Nat) (u : Value) : Prop := ∃ k l x, gasc gTab b = some (k, l) ∧ l[o]? = some x ∧ u = .int k x
def Good (Rd : Nat → Nat → Value → Prop) (B : Bs) : Prop := (∀ b o u, Rd b o u → B.w.cell? ⟨b, o, none⟩ = some u ∧ ¬ B.mine b) ∧ ∀ b o u, GT b o u → Rd b o u
def RDx (w0 : Bs) (Rd0 : Nat → Nat → Value → Prop) (e : Env) (h : Hp) (w : World) (b o : Nat) (u : Value) : Prop :=
 w.cell? ⟨b, o, none⟩ = some u ∧ (¬ w0.mine b → Rd0 b o u) ∧ ∀ k ob, hget h k = some ob → e.blk k = some b → o < e.lent k
def KeyD (d : TypeDesc) (v : Value) : Prop := match d with
 | .tuple _ => ∃ a b : Int, v = .agg #[.int .i64 a, .int .i64 b]
 | d => MapKept.IsKey d v
structure MRg {α : Type} (R : α → Value → Prop) (d : TypeDesc) (es : List (Value × α)) (arr : Array MapEntry) (clock : Nat) : Prop where
 len : arr.size = es.length
 key : ∀ (j : Nat) x m, es[j]? = some x → arr[j]? = some m → m.key = x.1 ∧ R x.2 m.val
 isk : ∀ m ∈ arr.toList, KeyD d m.key
 stp : MapKept.Stamped arr clock
 brn : ∀ (j : Nat) m, arr[j]? = some m → m.born = j
 clk : clock = arr.size
theorem MRg.imp {α : Type} {R R' : α → Value → Prop} {d : TypeDesc} {es : List (Value × α)} {arr : Array MapEntry} {clock : Nat} (h : MRg R d es arr clock) (hR : ∀ c u, R c u → R' c u) : MRg R' d es arr clock :=
 ⟨h.len, fun j x m hx hm => ⟨(h.key j x m hx hm).1, hR _ _ (h.key j x m hx hm).2⟩, h.isk, h.stp, h.brn, h.clk⟩
abbrev MR (Rd : Nat → Nat → Value → Prop) (d : TypeDesc) (es : List (Value × AV)) (arr : Array MapEntry) (clock : Nat) : Prop := MRg (VR Rd none) d es arr clock
theorem MR.mono {Rd Rd' : Nat → Nat → Value → Prop} (hR : ∀ b o u, Rd b o u → Rd' b o u) {d : TypeDesc} {es : List (Value × AV)} {arr : Array MapEntry} {clock : Nat} (h : MR Rd d es arr clock) : MR Rd' d es arr clock := MRg.imp h fun _ _ k => k.mono hR
def itT : TypeId := 1152921504606846975
def IterIs (w : World) (b : Nat) (us : List Value) : Prop := ∃ (bm n0 mask : Nat) (cur : Int) (seen : Array Nat), us = [.map (some bm), .int .i64 (n0 : Int), .int .i64 (mask : Int), .int .i64 cur] ∧ w.heap[b]? = some (.mapIter (some bm) n0 seen n0) ∧
 (∀ j, seen.contains j = mask.testBit j) ∧ (0 ≤ cur → seen.back? = some cur.toNat)
def BoxIs (w : World) (b : Nat) (t : TypeId) (us : List Value) : Prop := (t ≠ itT ∧ w.heap[b]? = some (.cells us.toArray t (0, 0))) ∨ (t = itT ∧ IterIs w b us)
theorem BoxIs.ext {w w' : World} {b : Nat} {t : TypeId} {us : List Value} (h : BoxIs w b t us) (hw : ∀ o, w.heap[b]? = some o → w'.heap[b]? = some o) : BoxIs w' b t us := by
 rcases h with ⟨h0, h⟩ | ⟨h0, bm, n0, mask, cur, seen, h1, h, h2⟩
 · exact .inl ⟨h0, hw _ h⟩
 · exact .inr ⟨h0, bm, n0, mask, cur, seen, h1, hw _ h, h2⟩
theorem BoxIs.lt {w : World} {b : Nat} {t : TypeId} {us : List Value} (h : BoxIs w b t us) : b < w.heap.size := by
 rcases h with ⟨_, h⟩ | ⟨_, bm, n0, mask, cur, seen, _, h, _⟩
 · exact (Array.getElem?_eq_some_iff.1 h).1
 · exact (Array.getElem?_eq_some_iff.1 h).1
theorem BoxIs.same {w w' : World} {b : Nat} {t : TypeId} {us : List Value} (h : BoxIs w b t us) (hw : w'.heap[b]? = w.heap[b]?) : BoxIs w' b t us := h.ext fun o ho => by rw [hw]; exact ho
theorem BoxIs.cells {w : World} {b : Nat} {t : TypeId} {us : List Value} (h : BoxIs w b t us) (ht : t ≠ itT) : w.heap[b]? = some (.cells us.toArray t (0, 0)) := by
 rcases h with ⟨_, h⟩ | ⟨h0, _⟩
 · exact h
 · exact absurd h0 ht
def OR (Rd : Nat → Nat → Value → Prop) (e : Env) (w : World) (k : Nat) : Ob → Prop
 | .box t cs => e.lent k = 0 ∧ ∃ b us, e.blk k = some b ∧ BoxIs w b t us ∧ LR (VR Rd (some e)) cs us
 | .arr t sz rows wr => (∀ r ∈ rows, r.length = sz) ∧ (∀ c ∈ rows.flatten, c.one = true) ∧ (wr = true → e.lent k = 0) ∧
     ((rows = [] ∧ e.blk k = none ∧ ∃ a, e.sv k = .slice a 0 0) ∨
      ∃ b cap cur, e.blk k = some b ∧ e.sv k = .slice (some ⟨b, 0, none⟩) rows.length cap ∧ rows.length ≤ cap ∧ cap ≤ maxLen ∧ w.heap[b]? = some (.cells cur t (0, 0)) ∧
        cur.size = cap * sz ∧ LR (VR Rd none) rows.flatten (cur.toList.take rows.flatten.length) ∧ e.lent k ≤ rows.flatten.length)
 | .mp d es => e.lent k = 0 ∧ ∃ b arr clock, e.blk k = some b ∧ w.heap[b]? = some (.map arr clock) ∧ MR Rd d es arr clock
 | .nr t cs => e.lent k = 0 ∧ ((cs = [] ∧ e.blk k = none ∧ ∃ a, e.sv k = .slice a 0 0) ∨
      ∃ b cap cur, e.blk k = some b ∧ e.sv k = .slice (some ⟨b, 0, none⟩) cs.length cap ∧ cs.length ≤ cap ∧ cap ≤ maxLen ∧ w.heap[b]? = some (.cells cur t (0, 0)) ∧
        cur.size = cap ∧ LR (VR Rd (some e)) cs (cur.toList.take cs.length))
structure SR (w0 : Bs) (Rd0 : Nat → Nat → Value → Prop) (e : Env) (h : Hp) (w : World) : Prop where
 ext : Bx w0 w
 good : Good Rd0 w0
 ob : ∀ k ob, hget h k = some ob → OR (RDx w0 Rd0 e h w) e w k ob
 base : ∀ k ob b, hget h k = some ob → e.blk k = some b → w0.mine b ∧ b < w.heap.size
 inj : ∀ k k' ob ob' b, hget h k = some ob → hget h k' = some ob' → e.blk k = some b → e.blk k' = some b → k = k'
 pin : ∀ k, 4294967296 ≤ k → e.blk k = w0.blk k ∧ e.sv k = w0.sv k
theorem SR.glob {w0 : Bs} {Rd0 : Nat → Nat → Value → Prop} {e : Env} {h : Hp} {w : World} (hs : SR w0 Rd0 e h w) {b o : Nat} {u : Value} (hg : GT b o u) : RDx w0 Rd0 e h w b o u := by
 have h0 := hs.good.2 _ _ _ hg
 obtain ⟨h1, h2⟩ := hs.good.1 b o u h0
 refine ⟨?_, fun _ => h0, fun k ob hk hb => absurd (hs.base k ob b hk hb).1 h2⟩
 rw [← h1]
 unfold World.cell?
 rw [hs.ext.block b h2]
def TR (Rd : Nat → Nat → Value → Prop) (e : Env) (t : List (Nat × AV)) (tm : Array Value) : Prop := ∀ i, VR Rd (some e) (tget t i) (tm.getD i undef)
theorem flatten_len {rows : List (List AV)} {sz : Nat} (h : ∀ r ∈ rows, r.length = sz) : rows.flatten.length = rows.length * sz := by
 induction rows with
 | nil => simp
 | cons r rows ih =>
  rw [List.flatten_cons, List.length_append, h r (by simp), ih (fun x hx => h x (by simp [hx])), List.length_cons, Nat.add_mul]
  omega
theorem OR.mono {Rd Rd' : Nat → Nat → Value → Prop} (hR : ∀ b o u, Rd b o u → Rd' b o u) {e : Env} {w : World} {k : Nat} {ob : Ob} (h : OR Rd e w k ob) : OR Rd' e w k ob := by
 cases ob with
 | box t cs =>
  obtain ⟨h0, b, us, h1, h2, h3⟩ := h
  exact ⟨h0, b, us, h1, h2, h3.imp fun _ _ hv => hv.mono hR⟩
 | arr t sz rows wr =>
  obtain ⟨h0, h1, h2, h3⟩ := h
  refine ⟨h0, h1, h2, ?_⟩
  rcases h3 with h3 | ⟨b, cap, cur, a1, a2, a3, a4, a5, a6, a7, a8⟩
  · exact .inl h3
  · exact .inr ⟨b, cap, cur, a1, a2, a3, a4, a5, a6, a7.imp fun _ _ hv => hv.mono hR, a8⟩
 | mp d es =>
  obtain ⟨h0, b, arr, clock, h1, h2, h3⟩ := h
  exact ⟨h0, b, arr, clock, h1, h2, h3.mono hR⟩
 | nr t cs =>
  obtain ⟨h0, h3⟩ := h
  refine ⟨h0, ?_⟩
  rcases h3 with h3 | ⟨b, cap, cur, a1, a2, a3, a4, a5, a6, a7⟩
  · exact .inl h3
  · exact .inr ⟨b, cap, cur, a1, a2, a3, a4, a5, a6, a7.imp fun _ _ hv => hv.mono hR⟩
def Ob.ment (k : Nat) : Ob → Bool
 | .box _ cs => AV.mentL k cs
 | .arr .. => false
 | .mp .. => false
 | .nr _ cs => AV.mentL k cs
theorem OR.env {Rd : Nat → Nat → Value → Prop} {e e' : Env} {w w' : World} {k j : Nat} {ob : Ob} (h : OR Rd e w j ob) (hj : j ≠ k) (hm : ob.ment k = false ∨ (e'.blk k = e.blk k ∧ e'.sv k = e.sv k))
   (hb : ∀ i, i ≠ k → e'.blk i = e.blk i) (hs : ∀ i, i ≠ k → e'.sv i = e.sv i) (hl : ∀ i, i ≠ k → e'.lent i = e.lent i)
   (hw : ∀ b, e.blk j = some b → b < w.heap.size → w'.heap[b]? = w.heap[b]?) : OR Rd e' w' j ob := by
 cases ob with
 | box t cs =>
   obtain ⟨h0, b, us, h1, h2, h3⟩ := h
   refine ⟨by rw [hl j hj]; exact h0, b, us, by rw [hb j hj]; exact h1, ?_, h3.1, fun i c u hc hu => ?_⟩
   · exact h2.same (hw b h1 h2.lt)
   · rcases hm with hm | ⟨hm1, hm2⟩
     · exact (h3.2 i c u hc hu).env rfl k (mentL_false (by simpa [Ob.ment] using hm) i c hc) hb hs
     · exact (h3.2 i c u hc hu).envEq rfl (fun j => by by_cases hjk : j = k; · rw [hjk]; exact hm1
                                                       · exact hb j hjk) (fun j => by by_cases hjk : j = k; · rw [hjk]; exact hm2
                                                                                      · exact hs j hjk)
 | arr t sz rows wr =>
   obtain ⟨h0, h1, h2, h3⟩ := h
   refine ⟨h0, h1, fun hwr => by rw [hl j hj]; exact h2 hwr, ?_⟩
   rcases h3 with ⟨a1, a2, a3⟩ | ⟨b, cap, cur, a1, a2, a3, a4, a5, a6, a7, a8⟩
   · exact .inl ⟨a1, by rw [hb j hj]; exact a2, by rw [hs j hj]; exact a3⟩
   · refine .inr ⟨b, cap, cur, by rw [hb j hj]; exact a1, by rw [hs j hj]; exact a2, a3, a4, ?_, a6, a7, by rw [hl j hj]; exact a8⟩
     rw [hw b a1 (Array.getElem?_eq_some_iff.1 a5).1]; exact a5
 | mp d es =>
   obtain ⟨h0, b, arr, clock, h1, h2, h3⟩ := h
   exact ⟨by rw [hl j hj]; exact h0, b, arr, clock, by rw [hb j hj]; exact h1, by rw [hw b h1 (Array.getElem?_eq_some_iff.1 h2).1]; exact h2, h3⟩
 | nr t cs =>
   obtain ⟨h0, h3⟩ := h
   refine ⟨by rw [hl j hj]; exact h0, ?_⟩
   rcases h3 with ⟨a1, a2, a3⟩ | ⟨b, cap, cur, a1, a2, a3, a4, a5, a6, a7⟩
   · exact .inl ⟨a1, by rw [hb j hj]; exact a2, by rw [hs j hj]; exact a3⟩
   · refine .inr ⟨b, cap, cur, by rw [hb j hj]; exact a1, by rw [hs j hj]; exact a2, a3, a4, ?_, a6, ⟨a7.1, fun i c u hc hu => ?_⟩⟩
     · rw [hw b a1 (Array.getElem?_eq_some_iff.1 a5).1]; exact a5
     · rcases hm with hm | ⟨hm1, hm2⟩
       · exact (a7.2 i c u hc hu).env rfl k (mentL_false (by simpa [Ob.ment] using hm) i c hc) hb hs
       · exact (a7.2 i c u hc hu).envEq rfl (fun j => by by_cases hjk : j = k; · rw [hjk]; exact hm1
                                                         · exact hb j hjk) (fun j => by by_cases hjk : j = k; · rw [hjk]; exact hm2
                                                                                        · exact hs j hjk)
def Env.upd (e : Env) (k : Nat) (b : Option Nat) (s : Value) (l : Nat) : Env :=
 ⟨fun i => if i = k then b else e.blk i, fun i => if i = k then s else e.sv i, fun i => if i = k then l else e.lent i⟩
theorem Env.upd_blk {e : Env} {k : Nat} {b : Option Nat} {s : Value} {l : Nat} : (e.upd k b s l).blk k = b := by simp [Env.upd]
theorem Env.upd_sv {e : Env} {k : Nat} {b : Option Nat} {s : Value} {l : Nat} : (e.upd k b s l).sv k = s := by simp [Env.upd]
theorem Env.upd_lent {e : Env} {k : Nat} {b : Option Nat} {s : Value} {l : Nat} : (e.upd k b s l).lent k = l := by simp [Env.upd]
theorem Env.upd_blk' {e : Env} {k : Nat} {b : Option Nat} {s : Value} {l i : Nat} (h : i ≠ k) : (e.upd k b s l).blk i = e.blk i := by simp [Env.upd, h]
theorem Env.upd_sv' {e : Env} {k : Nat} {b : Option Nat} {s : Value} {l i : Nat} (h : i ≠ k) : (e.upd k b s l).sv i = e.sv i := by simp [Env.upd, h]
theorem Env.upd_lent' {e : Env} {k : Nat} {b : Option Nat} {s : Value} {l i : Nat} (h : i ≠ k) : (e.upd k b s l).lent i = e.lent i := by simp [Env.upd, h]
theorem hget_same {h : Hp} {k : Nat} {o : Option Ob} : hget ((k, o) :: h) k = o := by simp [hget]
theorem hget_other {h : Hp} {k j : Nat} {o : Option Ob} (hj : j ≠ k) : hget ((k, o) :: h) j = hget h j := by simp [hget, hj]
def hnom (k : Nat) (h : Hp) : Bool := h.all fun p => match p.2 with | some ob => !ob.ment k | none => true
def tnom (k : Nat) (t : List (Nat × AV)) : Bool := t.all fun p => !p.2.ment k
theorem hnom_get {k : Nat} : ∀ {h : Hp}, hnom k h = true → ∀ j ob, hget h j = some ob → ob.ment k = false
 | [], _, j, ob, hg => by simp [hget] at hg
 | (i, o) :: h, hn, j, ob, hg => by
  simp only [hnom, List.all_cons, Bool.and_eq_true] at hn
  by_cases hj : j = i
  · subst hj
    rw [hget_same] at hg
    subst hg
    simpa using hn.1
  · rw [hget_other hj] at hg
    exact hnom_get (by simpa [hnom] using hn.2) j ob hg
theorem tnom_get {k : Nat} : ∀ {t : List (Nat × AV)}, tnom k t = true → ∀ j, (tget t j).ment k = false
 | [], _, j => by simp [tget, AV.ment]
 | (i, c) :: t, hn, j => by
  simp only [tnom, List.all_cons, Bool.and_eq_true] at hn
  by_cases hj : j = i
  · subst hj; simp [tget]; simpa using hn.1
  · simp only [tget, hj, if_false]; exact tnom_get (by simpa [tnom] using hn.2) j
theorem SR.turn {w0 : Bs} {w w' : World} {Rd0 : Nat → Nat → Value → Prop} {e : Env} {h : Hp} (hs : SR w0 Rd0 e h w) (k : Nat) (nb : Option Nat) (s : Value) (l : Nat) (no : Option Ob)
 (hext : Bx w0 w') (hnom : (hnom k h = true ∧ k < 4294967296) ∨ (nb = e.blk k ∧ s = e.sv k))
 (hsize : w.heap.size ≤ w'.heap.size)
 (hother : ∀ b, b < w.heap.size → (∀ ob, hget h k = some ob → e.blk k ≠ some b) → w'.heap[b]? = w.heap[b]?)
 (hnb : ∀ b, nb = some b → no ≠ none → w0.mine b ∧ b < w'.heap.size ∧ ((∃ ob, hget h k = some ob ∧ e.blk k = some b) ∨ w.heap.size ≤ b))
 (hkeep : ∀ b o u ob, hget h k = some ob → e.blk k = some b → o < e.lent k → w.cell? ⟨b, o, none⟩ = some u → w'.cell? ⟨b, o, none⟩ = some u ∧ (no ≠ none → nb = some b → o < l))
 (hob : ∀ (Rd : Nat → Nat → Value → Prop), (∀ b o u, RDx w0 Rd0 e h w b o u → Rd b o u) → (∀ b o u, w'.cell? ⟨b, o, none⟩ = some u → (∀ ob, hget h k = some ob → e.blk k = some b → no = none ∨ nb ≠ some b) → b < w.heap.size → (∃ ob, hget h k = some ob ∧ e.blk k = some b) → Rd b o u) → ∀ ob', no = some ob' → OR Rd (e.upd k nb s l) w' k ob') :
 SR w0 Rd0 (e.upd k nb s l) ((k, no) :: h) w' ∧ ∀ b o u, RDx w0 Rd0 e h w b o u → RDx w0 Rd0 (e.upd k nb s l) ((k, no) :: h) w' b o u := by
 have hRD : ∀ b o u, RDx w0 Rd0 e h w b o u → RDx w0 Rd0 (e.upd k nb s l) ((k, no) :: h) w' b o u := by
  rintro b o u ⟨h1, h2, h3⟩
  have hblt : b < w.heap.size := World.block_lt_of_cell? w _ h1
  have hcell : w'.cell? ⟨b, o, none⟩ = some u ∧ (no ≠ none → nb = some b → o < l) := by
   by_cases hk : ∃ ob, hget h k = some ob ∧ e.blk k = some b
   · obtain ⟨ob, ho, hb⟩ := hk
     exact hkeep b o u ob ho hb (h3 k ob ho hb) h1
   · have hne : ∀ ob, hget h k = some ob → e.blk k ≠ some b := fun ob ho hb => hk ⟨ob, ho, hb⟩
     refine ⟨by rw [World.cell?_of_block (w := w) (hother b hblt hne)]; exact h1, fun hno hnbb => ?_⟩
     rcases (hnb b hnbb hno).2.2 with hh | hh
     · exact absurd hh hk
     · omega
  refine ⟨hcell.1, h2, fun j ob hj hb => ?_⟩
  by_cases hjk : j = k
  · subst hjk
    rw [hget_same] at hj
    rw [Env.upd_blk] at hb
    rw [Env.upd_lent]
    exact hcell.2 (by rw [hj]; simp) hb
  · rw [hget_other hjk] at hj
    rw [Env.upd_blk' hjk] at hb
    rw [Env.upd_lent' hjk]
    exact h3 j ob hj hb
 refine ⟨⟨hext, hs.good, fun j ob hj => ?_, fun j ob b hj hb => ?_, fun j j' ob ob' b hj hj' hb hb' => ?_, fun j hj => ?_⟩, hRD⟩
 · by_cases hjk : j = k
   · subst hjk
     rw [hget_same] at hj
     refine hob _ hRD (fun b o u hc hnn hblt hk => ?_) ob hj
     obtain ⟨ob0, ho, hb0⟩ := hk
     refine ⟨hc, fun hlt => ?_, fun i obi hi hbi => ?_⟩
     · exact absurd (hs.base _ _ _ ho hb0).1 hlt
     · by_cases hik : i = j
       · subst hik
         rw [hget_same] at hi
         rw [Env.upd_blk] at hbi
         rcases hnn ob0 ho hb0 with h | h
         · rw [h] at hi; cases hi
         · exact absurd hbi h
       · rw [hget_other hik] at hi
         rw [Env.upd_blk' hik] at hbi
         exact absurd (hs.inj _ _ _ _ _ hi ho hbi hb0) hik
   · rw [hget_other hjk] at hj
     refine ((hs.ob j ob hj).env (w' := w') hjk (hnom.imp (fun hn => hnom_get hn.1 j ob hj) (fun hn => ⟨by rw [Env.upd_blk]; exact hn.1, by rw [Env.upd_sv]; exact hn.2⟩)) (fun _ hi => Env.upd_blk' hi) (fun _ hi => Env.upd_sv' hi) (fun _ hi => Env.upd_lent' hi) fun b hb hlt => ?_).mono hRD
     exact hother b hlt fun ob0 ho hb0 => hjk (hs.inj _ _ _ _ _ hj ho hb hb0)
 · by_cases hjk : j = k
   · subst hjk
     rw [hget_same] at hj
     rw [Env.upd_blk] at hb
     have := hnb b hb (by rw [hj]; simp)
     exact ⟨this.1, this.2.1⟩
   · rw [hget_other hjk] at hj
     rw [Env.upd_blk' hjk] at hb
     have := hs.base j ob b hj hb
     exact ⟨this.1, by omega⟩
 · by_cases hjk : j = k
   · by_cases hjk' : j' = k
     · rw [hjk, hjk']
     · subst hjk
       rw [hget_same] at hj
       rw [hget_other hjk'] at hj'
       rw [Env.upd_blk] at hb
       rw [Env.upd_blk' hjk'] at hb'
       rcases (hnb b hb (by rw [hj]; simp)).2.2 with ⟨ob0, ho, hb0⟩ | hh
       · exact absurd (hs.inj _ _ _ _ _ hj' ho hb' hb0) hjk'
       · have := (hs.base _ _ _ hj' hb').2; omega
   · rw [hget_other hjk] at hj
     rw [Env.upd_blk' hjk] at hb
     by_cases hjk' : j' = k
     · subst hjk'
       rw [hget_same] at hj'
       rw [Env.upd_blk] at hb'
       rcases (hnb b hb' (by rw [hj']; simp)).2.2 with ⟨ob0, ho, hb0⟩ | hh
       · exact hs.inj _ _ _ _ _ hj ho hb hb0
       · have := (hs.base _ _ _ hj hb).2; omega
     · rw [hget_other hjk'] at hj'
       rw [Env.upd_blk' hjk'] at hb'
       exact hs.inj _ _ _ _ _ hj hj' hb hb'
 · have hp := hs.pin j hj
   by_cases hjk : j = k
   · subst hjk
     rw [Env.upd_blk, Env.upd_sv]
     rcases hnom with hn | hn
     · omega
     · rw [hn.1, hn.2]; exact hp
   · rw [Env.upd_blk' hjk, Env.upd_sv' hjk]; exact hp
theorem TR.mono {Rd Rd' : Nat → Nat → Value → Prop} {e : Env} {t : List (Nat × AV)} {tm : Array Value} (h : TR Rd e t tm) (hR : ∀ b o u, Rd b o u → Rd' b o u) : TR Rd' e t tm := fun i => (h i).mono hR
theorem TR.env {Rd : Nat → Nat → Value → Prop} {e e' : Env} {t : List (Nat × AV)} {tm : Array Value} (h : TR Rd e t tm) (k : Nat) (hm : tnom k t = true)
 (hb : ∀ j, j ≠ k → e'.blk j = e.blk j) (hs : ∀ j, j ≠ k → e'.sv j = e.sv j) : TR Rd e' t tm := fun i => (h i).env rfl k (tnom_get hm i) hb hs
theorem TR.put {Rd : Nat → Nat → Value → Prop} {e : Env} {t : List (Nat × AV)} {tm : Array Value} (h : TR Rd e t tm) {d : Nat} {c : AV} {v : Value} (hd : d < tm.size) (hv : VR Rd (some e) c v) :
 TR Rd e ((d, c) :: t) (tm.setIfInBounds d v) := by
 intro i
 by_cases hi : i = d
 · subst hi
   simp [tget, hd]; exact hv
 · have : (tm.setIfInBounds d v).getD i undef = tm.getD i undef := by
    simp only [Array.getD_eq_getD_getElem?, Array.getElem?_setIfInBounds]
    rw [if_neg (by omega)]
   rw [this]
   simp only [tget, hi, if_false]
   exact h i
end
noncomputable section
open Go Go.RowKit
section
variable {w0 : Bs} {w : World} {Rd0 : Nat → Nat → Value → Prop} {e : Env} {h : Hp}
theorem hOld (w : World) (o : Obj) (i : Nat) (hi : i < w.heap.size) : (w.alloc o).heap[i]? = w.heap[i]? := by
 show (w.heap.push o)[i]? = _
 rw [Array.getElem?_push, if_neg (by omega)]
theorem hNew (w : World) (o : Obj) : (w.alloc o).heap[w.heap.size]? = some o := by
 show (w.heap.push o)[w.heap.size]? = _
 rw [Array.getElem?_push, if_pos rfl]
theorem SR.newBoxO (hs : SR w0 Rd0 e h w) (k : Nat) (t : TypeId) {cs : List AV} {us : List Value} (o : Obj) (ho : BoxIs (w.alloc o) w.heap.size t us) (hl : LR (VR (RDx w0 Rd0 e h w) (some e)) cs us) (hn : hnom k h = true) (hk0 : k < 4294967296) (hc : AV.mentL k cs = false) :
 SR w0 Rd0 (e.upd k (some w.heap.size) (e.sv k) 0) ((k, some (.box t cs)) :: h) (w.alloc o) ∧
 ∀ b o' u, RDx w0 Rd0 e h w b o' u → RDx w0 Rd0 (e.upd k (some w.heap.size) (e.sv k) 0) ((k, some (.box t cs)) :: h) (w.alloc o) b o' u := by
 refine hs.turn k (some w.heap.size) (e.sv k) 0 _ (hs.ext.alloc _) (.inl ⟨hn, hk0⟩) (by simp) (fun b hb _ => hOld w _ b hb) (fun b hb _ => ?_) (fun b o u ob ho hb hlt hcell => ?_) (fun Rd hR _ ob' hob' => ?_)
 · obtain rfl := Option.some.inj hb
   exact ⟨hs.ext.mine (Nat.le_refl _), by simp, .inr (Nat.le_refl _)⟩
 · have hblt := (hs.base _ _ _ ho hb).2
   refine ⟨by rw [World.cell?_of_block (w := w) (hOld w _ b hblt)]; exact hcell, fun _ hbb => ?_⟩
   obtain rfl := Option.some.inj hbb
   omega
 · obtain rfl := Option.some.inj hob'
   refine ⟨Env.upd_lent, w.heap.size, us, Env.upd_blk, ho, hl.1, fun i c u h1 h2 => ?_⟩
   exact ((hl.2 i c u h1 h2).mono hR).env rfl k (mentL_false hc i c h1) (fun _ hi => Env.upd_blk' hi) (fun _ hi => Env.upd_sv' hi)
theorem SR.newBox (hs : SR w0 Rd0 e h w) (k : Nat) (t : TypeId) (hti : t ≠ itT) {cs : List AV} {us : List Value} (hl : LR (VR (RDx w0 Rd0 e h w) (some e)) cs us) (hn : hnom k h = true) (hk0 : k < 4294967296) (hc : AV.mentL k cs = false) :
 SR w0 Rd0 (e.upd k (some w.heap.size) (e.sv k) 0) ((k, some (.box t cs)) :: h) (w.alloc (.cells us.toArray t)) ∧
 ∀ b o u, RDx w0 Rd0 e h w b o u → RDx w0 Rd0 (e.upd k (some w.heap.size) (e.sv k) 0) ((k, some (.box t cs)) :: h) (w.alloc (.cells us.toArray t)) b o u :=
 hs.newBoxO k t _ (.inl ⟨hti, hNew w _⟩) hl hn hk0 hc
theorem SR.newArr (hs : SR w0 Rd0 e h w) (k : Nat) (t : TypeId) (sz cap : Nat) {rows : List (List AV)} {cur : Array Value} (hw : ∀ r ∈ rows, r.length = sz) (h1c : ∀ c ∈ rows.flatten, c.one = true)
 (hl : LR (VR (RDx w0 Rd0 e h w) none) rows.flatten (cur.toList.take rows.flatten.length)) (hcap : rows.length ≤ cap) (hm : cap ≤ maxLen) (hcur : cur.size = cap * sz) (hn : hnom k h = true) (hk0 : k < 4294967296)
 (w' : World) (hw' : w'.heap = w.heap.push (.cells cur t)) (hext : Bx w0 w') :
 SR w0 Rd0 (e.upd k (some w.heap.size) (.slice (some ⟨w.heap.size, 0, none⟩) rows.length cap) 0) ((k, some (.arr t sz rows true)) :: h) w' ∧
 ∀ b o u, RDx w0 Rd0 e h w b o u → RDx w0 Rd0 (e.upd k (some w.heap.size) (.slice (some ⟨w.heap.size, 0, none⟩) rows.length cap) 0) ((k, some (.arr t sz rows true)) :: h) w' b o u := by
 have hsz : w'.heap.size = w.heap.size + 1 := by rw [hw']; simp
 have hold : ∀ b, b < w.heap.size → w'.heap[b]? = w.heap[b]? := fun b hb => by rw [hw', Array.getElem?_push, if_neg (by omega)]
 refine hs.turn k (some w.heap.size) (.slice (some ⟨w.heap.size, 0, none⟩) rows.length cap) 0 _ hext (.inl ⟨hn, hk0⟩) (by omega) (fun b hb _ => hold b hb) (fun b hb _ => ?_) (fun b o u ob ho hb hlt hcell => ?_) (fun Rd hR _ ob' hob' => ?_)
 · obtain rfl := Option.some.inj hb
   exact ⟨hs.ext.mine (Nat.le_refl _), by omega, .inr (Nat.le_refl _)⟩
 · have hblt := (hs.base _ _ _ ho hb).2
   refine ⟨by rw [World.cell?_of_block (w := w) (hold b hblt)]; exact hcell, fun _ hbb => ?_⟩
   obtain rfl := Option.some.inj hbb
   omega
 · obtain rfl := Option.some.inj hob'
   refine ⟨hw, h1c, fun _ => Env.upd_lent, .inr ⟨w.heap.size, cap, cur, Env.upd_blk, Env.upd_sv, hcap, hm, ?_, hcur, hl.imp fun _ _ hv => hv.mono hR, ?_⟩⟩
   · rw [hw', Array.getElem?_push, if_pos rfl]
   · rw [Env.upd_lent]; exact Nat.zero_le _
theorem SR.newNil (hs : SR w0 Rd0 e h w) (k : Nat) (t : TypeId) (sz : Nat) (a : Option Addr) (hn : hnom k h = true) (hk0 : k < 4294967296) :
 SR w0 Rd0 (e.upd k none (.slice a 0 0) 0) ((k, some (.arr t sz [] true)) :: h) w ∧
 ∀ b o u, RDx w0 Rd0 e h w b o u → RDx w0 Rd0 (e.upd k none (.slice a 0 0) 0) ((k, some (.arr t sz [] true)) :: h) w b o u := by
 refine hs.turn k none (.slice a 0 0) 0 _ hs.ext (.inl ⟨hn, hk0⟩) (Nat.le_refl _) (fun b hb _ => rfl) (fun b hb _ => by cases hb) (fun b o u ob ho hb hlt hcell => ⟨hcell, fun _ hbb => by cases hbb⟩) (fun Rd hR _ ob' hob' => ?_)
 obtain rfl := Option.some.inj hob'
 exact ⟨by simp, by simp, fun _ => Env.upd_lent, .inl ⟨rfl, Env.upd_blk, a, Env.upd_sv⟩⟩
theorem SR.storeBox (hs : SR w0 Rd0 e h w) {k : Nat} {t : TypeId} {cs : List AV} {b : Nat} (hti : t ≠ itT) (hk : hget h k = some (.box t cs)) (hb : e.blk k = some b) (o : Nat) {c : AV} {u : Value}
 (hv : VR (RDx w0 Rd0 e h w) (some e) c u) :
 SR w0 Rd0 (e.upd k (some b) (e.sv k) 0) ((k, some (.box t (cs.set o c))) :: h) (w.setCell ⟨b, o, none⟩ u) ∧
 ∀ b' o' u', RDx w0 Rd0 e h w b' o' u' → RDx w0 Rd0 (e.upd k (some b) (e.sv k) 0) ((k, some (.box t (cs.set o c))) :: h) (w.setCell ⟨b, o, none⟩ u) b' o' u' := by
 obtain ⟨hl0, b1, us, hb1, hus, hlr⟩ := hs.ob _ _ hk
 obtain rfl : b1 = b := Option.some.inj (hb1.symm.trans hb)
 have hbase := hs.base _ _ _ hk hb
 refine hs.turn k (some b1) (e.sv k) 0 _ (hs.ext.setCell hbase.1 _) (.inr ⟨hb.symm, rfl⟩) (by simp) (fun b' hb' hne => heap_setCell_other w _ _ _ (fun hh => hne _ hk (by rw [hb]; exact congrArg some hh.symm))) (fun b' hb' _ => ?_) (fun b' o' u' ob ho hb' hlt hcell => ?_) (fun Rd hR _ ob' hob' => ?_)
 · obtain rfl := Option.some.inj hb'
   exact ⟨hbase.1, by simp; exact hbase.2, .inl ⟨_, hk, hb⟩⟩
 · rw [hl0] at hlt; omega
 · obtain rfl := Option.some.inj hob'
   refine ⟨Env.upd_lent, b1, us.set o u, Env.upd_blk, .inl ⟨hti, ?_⟩, ?_⟩
   · have := heap_setCell_same w b1 o us.toArray t u (hus.cells hti)
     rw [this]
     simp
   · have hbe : ∀ j, (e.upd k (some b1) (e.sv k) 0).blk j = e.blk j := fun j => by by_cases hj : j = k <;> simp [Env.upd, hj, hb]
     have hse : ∀ j, (e.upd k (some b1) (e.sv k) 0).sv j = e.sv j := fun j => by by_cases hj : j = k <;> simp [Env.upd, hj]
     have h1 : LR (VR Rd (some (e.upd k (some b1) (e.sv k) 0))) cs us := ⟨hlr.1, fun i c u h1 h2 => ((hlr.2 i c u h1 h2).mono hR).envEq rfl hbe hse⟩
     exact h1.set o ((hv.mono hR).envEq rfl hbe hse)
theorem SR.storeArr (hs : SR w0 Rd0 e h w) {k : Nat} {t : TypeId} {sz : Nat} {rows rows' : List (List AV)} {b : Nat} (hk : hget h k = some (.arr t sz rows true)) (hb : e.blk k = some b) (o : Nat) {c : AV} {u : Value}
 (hv : VR (RDx w0 Rd0 e h w) none c u) (hc1 : c.one = true) (hlen : rows'.length = rows.length) (hw : ∀ r ∈ rows', r.length = sz) (hfl : rows'.flatten = rows.flatten.set o c) (ho : o < rows.flatten.length) :
 SR w0 Rd0 (e.upd k (some b) (e.sv k) 0) ((k, some (.arr t sz rows' true)) :: h) (w.setCell ⟨b, o, none⟩ u) ∧
 ∀ b' o' u', RDx w0 Rd0 e h w b' o' u' → RDx w0 Rd0 (e.upd k (some b) (e.sv k) 0) ((k, some (.arr t sz rows' true)) :: h) (w.setCell ⟨b, o, none⟩ u) b' o' u' := by
 obtain ⟨hw0, h1c, hl0, hrow⟩ := hs.ob _ _ hk
 have hl0 := hl0 rfl
 have hbase := hs.base _ _ _ hk hb
 rcases hrow with ⟨_, hbn, _⟩ | ⟨b1, cap, cur, hb1, hsv, hcap, hm, hcur, hcs, hlr, hle⟩
 · rw [hbn] at hb; cases hb
 obtain rfl : b1 = b := Option.some.inj (hb1.symm.trans hb)
 refine hs.turn k (some b1) (e.sv k) 0 _ (hs.ext.setCell hbase.1 _) (.inr ⟨hb.symm, rfl⟩) (by simp) (fun b' hb' hne => heap_setCell_other w _ _ _ (fun hh => hne _ hk (by rw [hb]; exact congrArg some hh.symm))) (fun b' hb' _ => ?_) (fun b' o' u' ob ho hb' hlt hcell => ?_) (fun Rd hR _ ob' hob' => ?_)
 · obtain rfl := Option.some.inj hb'
   exact ⟨hbase.1, by simp; exact hbase.2, .inl ⟨_, hk, hb⟩⟩
 · rw [hl0] at hlt; omega
 · obtain rfl := Option.some.inj hob'
   refine ⟨hw, ?_, fun _ => Env.upd_lent, .inr ⟨b1, cap, cur.setIfInBounds o u, Env.upd_blk, ?_, by rw [hlen]; exact hcap, hm, heap_setCell_same w b1 o cur t u hcur, by simpa using hcs, ?_, ?_⟩⟩
   · intro x hx
     rw [hfl] at hx
     rcases List.mem_or_eq_of_mem_set hx with hx | rfl
     · exact h1c x hx
     · exact hc1
   · rw [Env.upd_sv, hlen]; exact hsv
   · rw [hfl, Array.toList_setIfInBounds, List.length_set, List.take_set]
     exact (hlr.imp fun _ _ hv => hv.mono hR).set o (hv.mono hR)
   · rw [Env.upd_lent]; exact Nat.zero_le _
theorem SR.lend (hs : SR w0 Rd0 e h w) {k : Nat} {t : TypeId} {sz : Nat} {rows : List (List AV)} {wr : Bool} (hk : hget h k = some (.arr t sz rows wr)) :
 ∃ e', SR w0 Rd0 e' ((k, some (.arr t sz rows false)) :: h) w ∧ (∀ b o u, RDx w0 Rd0 e h w b o u → RDx w0 Rd0 e' ((k, some (.arr t sz rows false)) :: h) w b o u) ∧
  (∀ j, e'.blk j = e.blk j) ∧ (∀ j, e'.sv j = e.sv j) ∧ VR (RDx w0 Rd0 e' ((k, some (.arr t sz rows false)) :: h) w) none (.sl false sz rows) (e.sv k) := by
 obtain ⟨hw0, h1c, hl0, hrow⟩ := hs.ob _ _ hk
 have hblk : ∀ j, (e.upd k (e.blk k) (e.sv k) rows.flatten.length).blk j = e.blk j := fun j => by by_cases hj : j = k <;> simp [Env.upd, hj]
 have hsv : ∀ j, (e.upd k (e.blk k) (e.sv k) rows.flatten.length).sv j = e.sv j := fun j => by by_cases hj : j = k <;> simp [Env.upd, hj]
 have hlent : e.lent k ≤ rows.flatten.length ∨ e.blk k = none := by
  rcases hrow with ⟨_, hbn, _⟩ | ⟨b1, cap, cur, hb1, _, _, _, _, _, _, hle⟩
  · exact .inr hbn
  · exact .inl hle
 obtain ⟨h1, h2⟩ := hs.turn k (e.blk k) (e.sv k) rows.flatten.length (some (.arr t sz rows false)) hs.ext (.inr ⟨rfl, rfl⟩) (Nat.le_refl _) (fun b hb _ => rfl)
  (fun b hb _ => ⟨(hs.base _ _ _ hk hb).1, (hs.base _ _ _ hk hb).2, .inl ⟨_, hk, hb⟩⟩)
  (fun b o u ob ho hb hlt hcell => ⟨hcell, fun _ _ => by
   rcases hlent with hle | hbn
   · omega
   · rw [hbn] at hb; cases hb⟩)
  (fun Rd hR _ ob' hob' => by
   obtain rfl := Option.some.inj hob'
   refine ⟨hw0, h1c, (fun hh => by cases hh), ?_⟩
   rcases hrow with ⟨hr, hbn, a, ha⟩ | ⟨b1, cap, cur, hb1, hsv1, hcap, hm, hcur, hcs, hlr, hle⟩
   · exact .inl ⟨hr, by rw [hblk]; exact hbn, a, by rw [hsv]; exact ha⟩
   · exact .inr ⟨b1, cap, cur, by rw [hblk]; exact hb1, by rw [hsv]; exact hsv1, hcap, hm, hcur, hcs, hlr.imp fun _ _ hv => hv.mono hR, by rw [Env.upd_lent]; exact Nat.le_refl _⟩)
 have hlk : (e.upd k (e.blk k) (e.sv k) rows.flatten.length).lent k = rows.flatten.length := Env.upd_lent
 generalize e.upd k (e.blk k) (e.sv k) rows.flatten.length = e' at *
 refine ⟨e', h1, h2, hblk, hsv, ?_⟩
 rcases hrow with ⟨hr, hbn, a, ha⟩ | ⟨b1, cap, cur, hb1, hsv1, hcap, hm, hcur, hcs, hlr, hle⟩
 · subst hr
   rw [ha]
   exact VR.sl (rows := []) [] (by simp) (by simp) rfl (by simp) (Nat.le_refl _) (Nat.zero_le _) (by simp) (by simp)
 · rw [hsv1]
   refine VR.sl (cur.toList.take rows.flatten.length) hw0 h1c hlr.1 (fun j c u hc hu => (hlr.2 j c u hc hu).mono h2) hcap hm (by simp) (fun _ => ⟨b1, 0, rfl, fun j u hj => ?_⟩)
   have hjl : j < rows.flatten.length := by
    have := (List.getElem?_eq_some_iff.1 hj).1
    rw [hlr.1] at this; exact this
   rw [List.getElem?_take, if_pos hjl] at hj
   refine ⟨by rw [Nat.zero_add, cell_of_row w b1 j cur t (0, 0) hcur]; simpa using hj, fun hlt => ?_, fun i ob hi hbi => ?_⟩
   · exact absurd (hs.base _ _ _ hk hb1).1 hlt
   · rw [hblk] at hbi
     by_cases hik : i = k
     · subst hik; rw [hlk]; omega
     · rw [hget_other hik] at hi
       exact absurd (hs.inj _ _ _ _ _ hi hk hbi hb1) hik
theorem SR.forget (hs : SR w0 Rd0 e h w) (k : Nat) :
 SR w0 Rd0 e ((k, none) :: h) w ∧ ∀ b o u, RDx w0 Rd0 e h w b o u → RDx w0 Rd0 e ((k, none) :: h) w b o u := by
 have hR : ∀ b o u, RDx w0 Rd0 e h w b o u → RDx w0 Rd0 e ((k, none) :: h) w b o u := by
  rintro b o u ⟨h1, h2, h3⟩
  refine ⟨h1, h2, fun j ob hj hb => ?_⟩
  by_cases hjk : j = k
  · subst hjk; rw [hget_same] at hj; cases hj
  · rw [hget_other hjk] at hj; exact h3 j ob hj hb
 refine ⟨⟨hs.ext, hs.good, fun j ob hj => ?_, fun j ob b hj hb => ?_, fun j j' ob ob' b hj hj' hb hb' => ?_, hs.pin⟩, hR⟩
 · by_cases hjk : j = k
   · subst hjk; rw [hget_same] at hj; cases hj
   · rw [hget_other hjk] at hj; exact (hs.ob j ob hj).mono hR
 · by_cases hjk : j = k
   · subst hjk; rw [hget_same] at hj; cases hj
   · rw [hget_other hjk] at hj; exact hs.base j ob b hj hb
 · by_cases hjk : j = k
   · subst hjk; rw [hget_same] at hj; cases hj
   · by_cases hjk' : j' = k
     · subst hjk'; rw [hget_same] at hj'; cases hj'
     · rw [hget_other hjk] at hj; rw [hget_other hjk'] at hj'; exact hs.inj _ _ _ _ _ hj hj' hb hb'
theorem SR.later (hs : SR w0 Rd0 e h w) {w' : World} (hx : Ext w w') : SR w0 Rd0 e h w' ∧ ∀ b o u, RDx w0 Rd0 e h w b o u → RDx w0 Rd0 e h w' b o u := by
 have hR : ∀ b o u, RDx w0 Rd0 e h w b o u → RDx w0 Rd0 e h w' b o u := fun b o u ⟨h1, h2, h3⟩ => ⟨hx.cell h1, h2, h3⟩
 refine ⟨⟨hs.ext.later hx, hs.good, fun j ob hj => ?_, fun j ob b hj hb => ?_, hs.inj, hs.pin⟩, hR⟩
 · have ho := (hs.ob j ob hj).mono hR
   cases ob with
   | box t cs =>
    obtain ⟨h0, b, us, h1, h2, h3⟩ := ho
    exact ⟨h0, b, us, h1, h2.ext (fun o ho => hx.block ho), h3⟩
   | arr t sz rows wr =>
    obtain ⟨h0, h1, h2, h3⟩ := ho
    refine ⟨h0, h1, h2, ?_⟩
    rcases h3 with h3 | ⟨b, cap, cur, a1, a2, a3, a4, a5, a6, a7, a8⟩
    · exact .inl h3
    · exact .inr ⟨b, cap, cur, a1, a2, a3, a4, hx.block a5, a6, a7, a8⟩
   | mp d es =>
    obtain ⟨h0, b, arr, clock, h1, h2, h3⟩ := ho
    exact ⟨h0, b, arr, clock, h1, hx.block h2, h3⟩
   | nr t cs =>
    obtain ⟨h0, h3⟩ := ho
    refine ⟨h0, ?_⟩
    rcases h3 with h3 | ⟨b, cap, cur, a1, a2, a3, a4, a5, a6, a7⟩
    · exact .inl h3
    · exact .inr ⟨b, cap, cur, a1, a2, a3, a4, hx.block a5, a6, a7⟩
 · have := hs.base j ob b hj hb
   exact ⟨this.1, Nat.lt_of_lt_of_le this.2 hx.size⟩
end
end
noncomputable section
open Go Go.RowKit
def AV.kill (k : Nat) (c : AV) : AV := if c.ment k then .un else c
def Ob.kill (k : Nat) : Ob → Ob
 | .box t cs => .box t (cs.map (AV.kill k))
 | .arr t sz rows wr => .arr t sz rows wr
 | .mp d es => .mp d es
 | .nr t cs => .nr t (cs.map (AV.kill k))
def hkill (k : Nat) : Hp → Hp
 | [] => []
 | (j, o) :: h => (j, o.map (Ob.kill k)) :: hkill k h
def tkill (k : Nat) : List (Nat × AV) → List (Nat × AV)
 | [] => []
 | (j, c) :: t => (j, c.kill k) :: tkill k t
theorem kill_ment (k : Nat) (c : AV) : (c.kill k).ment k = false := by
 unfold AV.kill
 split
 · rfl
 · rename_i h; simpa using h
theorem mentL_kill (k : Nat) : ∀ cs : List AV, AV.mentL k (cs.map (AV.kill k)) = false
 | [] => rfl
 | c :: cs => by simp [AV.mentL, kill_ment, mentL_kill k cs]
theorem hnom_kill (k : Nat) : ∀ h : Hp, hnom k (hkill k h) = true
 | [] => rfl
 | (j, o) :: h => by
  have ih := hnom_kill k h
  unfold hnom at ih ⊢
  simp only [hkill, List.all_cons, ih, Bool.and_true]
  cases o with
  | none => rfl
  | some ob => cases ob <;> simp [Ob.kill, Ob.ment, mentL_kill]
theorem tnom_kill (k : Nat) : ∀ t : List (Nat × AV), tnom k (tkill k t) = true
 | [] => rfl
 | (j, c) :: t => by
  have ih := tnom_kill k t
  unfold tnom at ih ⊢
  simp only [tkill, List.all_cons, ih, Bool.and_true, kill_ment, Bool.not_false]
theorem hget_kill (k : Nat) : ∀ (h : Hp) (j : Nat), hget (hkill k h) j = (hget h j).map (Ob.kill k)
 | [], _ => rfl
 | (i, o) :: h, j => by
  simp only [hkill, hget]
  split
  · rfl
  · exact hget_kill k h j
theorem tget_kill (k : Nat) : ∀ (t : List (Nat × AV)) (j : Nat), tget (tkill k t) j = (tget t j).kill k
 | [], _ => by simp [tkill, tget, AV.kill, AV.ment]
 | (i, c) :: t, j => by
  simp only [tkill, tget]
  split
  · rfl
  · exact tget_kill k t j
theorem VR.kill {Rd : Nat → Nat → Value → Prop} {E : Option Env} {c : AV} {u : Value} (h : VR Rd E c u) (k : Nat) : VR Rd E (c.kill k) u := by
 unfold AV.kill; split
 · exact .un
 · exact h
theorem TR.kill {Rd : Nat → Nat → Value → Prop} {e : Env} {t : List (Nat × AV)} {tm : Array Value} (h : TR Rd e t tm) (k : Nat) : TR Rd e (tkill k t) tm := fun i => by
 rw [tget_kill]; exact (h i).kill k
theorem LR.kill {Rd : Nat → Nat → Value → Prop} {E : Option Env} {cs : List AV} {us : List Value} (h : LR (VR Rd E) cs us) (k : Nat) : LR (VR Rd E) (cs.map (AV.kill k)) us := by
 refine ⟨by simpa using h.1, fun j c u h1 h2 => ?_⟩
 rw [List.getElem?_map] at h1
 obtain ⟨c0, hc0, rfl⟩ := Option.map_eq_some_iff.1 h1
 exact (h.2 j c0 u hc0 h2).kill k
section
variable {w0 : Bs} {w : World} {Rd0 : Nat → Nat → Value → Prop} {e : Env} {h : Hp}
theorem SR.kill (hs : SR w0 Rd0 e h w) (k : Nat) : SR w0 Rd0 e (hkill k h) w ∧ ∀ b o u, RDx w0 Rd0 e h w b o u → RDx w0 Rd0 e (hkill k h) w b o u := by
 have hR : ∀ b o u, RDx w0 Rd0 e h w b o u → RDx w0 Rd0 e (hkill k h) w b o u := fun b o u ⟨h1, h2, h3⟩ => ⟨h1, h2, fun j ob hj hb => by
  rw [hget_kill] at hj
  obtain ⟨ob0, ho, _⟩ := Option.map_eq_some_iff.1 hj
  exact h3 j ob0 ho hb⟩
 have back : ∀ j ob, hget (hkill k h) j = some ob → ∃ ob0, hget h j = some ob0 ∧ ob = ob0.kill k := fun j ob hj => by
  rw [hget_kill] at hj
  obtain ⟨ob0, ho, he⟩ := Option.map_eq_some_iff.1 hj
  exact ⟨ob0, ho, he.symm⟩
 refine ⟨⟨hs.ext, hs.good, fun j ob hj => ?_, fun j ob b hj hb => ?_, fun j j' ob ob' b hj hj' hb hb' => ?_, hs.pin⟩, hR⟩
 · obtain ⟨ob0, ho, rfl⟩ := back j ob hj
   have h1 := (hs.ob j ob0 ho).mono hR
   cases ob0 with
   | box t cs =>
    obtain ⟨a0, b, us, a1, a2, a3⟩ := h1
    exact ⟨a0, b, us, a1, a2, a3.kill k⟩
   | arr t sz rows wr => exact h1
   | mp d es => exact h1
   | nr t cs =>
    obtain ⟨h0, h3⟩ := h1
    refine ⟨h0, ?_⟩
    rcases h3 with ⟨a1, a2, a3⟩ | ⟨b, cap, cur, a1, a2, a3, a4, a5, a6, a7⟩
    · exact .inl ⟨by rw [a1]; rfl, a2, a3⟩
    · exact .inr ⟨b, cap, cur, a1, by rw [List.length_map]; exact a2, by rw [List.length_map]; exact a3, a4, a5, a6, by rw [List.length_map]; exact a7.kill k⟩
 · obtain ⟨ob0, ho, rfl⟩ := back j ob hj
   exact hs.base j ob0 b ho hb
 · obtain ⟨ob0, ho, rfl⟩ := back j ob hj
   obtain ⟨ob1, ho1, rfl⟩ := back j' ob' hj'
   exact hs.inj _ _ _ _ _ ho ho1 hb hb'
theorem VR.sl_inv {Rd : Nat → Nat → Value → Prop} {E : Option Env} {tt : Bool} {sz : Nat} {rows : List (List AV)} {v : Value} (hv : VR Rd E (.sl tt sz rows) v) :
 ∃ a cap us, v = .slice a rows.length cap ∧ (∀ r ∈ rows, r.length = sz) ∧ (∀ c ∈ rows.flatten, c.one = true) ∧ LR (VR Rd none) rows.flatten us ∧ rows.length ≤ cap ∧ cap ≤ maxLen ∧ (tt = true → cap = rows.length) ∧
  (us ≠ [] → ∃ b o, a = some ⟨b, o, none⟩ ∧ ∀ (j : Nat) u, us[j]? = some u → Rd b (o + j) u) := by
 cases hv with
 | sl us hw h1c hl hc h1 h2 h3 ha => exact ⟨_, _, us, rfl, hw, h1c, ⟨hl, hc⟩, h1, h2, h3, ha⟩
theorem LR.one {Rd : Nat → Nat → Value → Prop} {cs : List AV} {us : List Value} (h : LR (VR Rd none) cs us) (h1 : ∀ c ∈ cs, c.one = true) : ∀ u ∈ us, u.oneCell' = true := by
 intro u hu
 obtain ⟨j, hj, rfl⟩ := List.getElem_of_mem hu
 have hjc : j < cs.length := by rw [← h.1]; exact hj
 exact (h.2 j cs[j] us[j] (List.getElem?_eq_getElem hjc) (List.getElem?_eq_getElem hj)).oneCell (h1 _ (List.getElem_mem _)) (fun _ _ h => by cases h)
section
variable {P : Program}
theorem run_append_zero (w : World) (t ty E : TypeId) (i : TypeInfo) (ht : P.underlying t = some (.slice E)) (hi : P.info? E = some i) (a a2 : Option Addr) (n cap cap2 : Nat) (hn : n ≤ cap) :
 (Builtin.append_ #[t, t] ty #[.slice a n cap, .slice a2 0 cap2]).run P w = .ok (.slice a n cap) w := by
 cases a <;> cases a2 <;> simp [Builtin.append_, run_underlying ht, sizeOf, typeInfo, hi, Builtin.lenOf, Builtin.firstCells, hn, storeCells, loadCells, loadCellsFrom]
theorem Bx.setRow {B : Bs} {w : World} (h : Bx B w) {g : Nat} (hg : B.mine g) (cs : Array Value) : Bx B (w.setRow g cs) :=
 h.step rfl rfl rfl (by simp [World.setRow]) fun b hb _ => setRow_other w g b cs (fun e => hb (by rw [e]; exact hg))
theorem SR.append (hs : SR w0 Rd0 e h w) {k : Nat} (hk0 : k < 4294967296) {E : TypeId} {sz : Nat} {rows ys : List (List AV)} {wr tt : Bool} (hk : hget h k = some (.arr E sz rows wr))
 (t ty : TypeId) (i : TypeInfo) (z : Value) (ht : P.underlying t = some (.slice E)) (hi : P.info? E = some i) (hz : i.zero = some z) (hsz : i.size = sz) (hzs : z.cells.size = sz) (hpos : 0 < sz)
 {src : Value} (hsrc : VR (RDx w0 Rd0 e h w) (some e) (.sl tt sz ys) src)
 (h63 : rows.length + ys.length ≤ maxLen) (hby : (rows.length + ys.length) * i.bytes ≤ 140737488355328) :
 ∃ v' w' nb l, (Builtin.append_ #[t, t] ty #[e.sv k, src]).run P w = .ok v' w' ∧
  SR w0 Rd0 (e.upd k nb v' l) ((k, some (.arr E sz (rows ++ ys) wr)) :: hkill k h) w' ∧
  ∀ b o u, RDx w0 Rd0 e h w b o u → RDx w0 Rd0 (e.upd k nb v' l) ((k, some (.arr E sz (rows ++ ys) wr)) :: hkill k h) w' b o u := by
 obtain ⟨hs1, hR1⟩ := hs.kill k
 have hk1 : hget (hkill k h) k = some (.arr E sz rows wr) := by rw [hget_kill, hk]; rfl
 have hn1 := hnom_kill k h
 obtain ⟨a2, cap2, us, rfl, hyw, hy1, hyl, hy2, hy3, _, hya⟩ := hsrc.sl_inv
 have hyf := flatten_len hyw
 obtain ⟨hw0, h1c, hl0, hrow⟩ := hs1.ob _ _ hk1
 have hrf := flatten_len hw0
 have hww : ∀ r ∈ rows ++ ys, r.length = sz := fun r hr => by
  rcases List.mem_append.1 hr with hr | hr
  · exact hw0 r hr
  · exact hyw r hr
 have hw1 : ∀ c ∈ (rows ++ ys).flatten, c.one = true := fun c hc => by
  rw [List.flatten_append] at hc
  rcases List.mem_append.1 hc with hc | hc
  · exact h1c c hc
  · exact hy1 c hc
 unfold maxLen at h63
 by_cases hm0 : ys.length = 0
 · -- nothing is appended
   have hye : ys = [] := List.eq_nil_of_length_eq_zero hm0
   subst hye
   simp only [List.append_nil, List.length_nil] at *
   obtain ⟨a, n, cap, hsv, hnc⟩ : ∃ a n cap, e.sv k = .slice a n cap ∧ n ≤ cap := by
    rcases hrow with ⟨_, _, a, ha⟩ | ⟨b1, cap, cur, hb1, hsv, hcap, _⟩
    · exact ⟨a, 0, 0, ha, Nat.le_refl _⟩
    · exact ⟨_, _, _, hsv, hcap⟩
   obtain ⟨h1, h2⟩ := hs1.turn k (e.blk k) (e.sv k) (e.lent k) (some (.arr E sz rows wr)) hs.ext (.inl ⟨hn1, hk0⟩) (Nat.le_refl _) (fun _ _ _ => rfl)
    (fun b hb _ => ⟨(hs1.base _ _ _ hk1 hb).1, (hs1.base _ _ _ hk1 hb).2, .inl ⟨_, hk1, hb⟩⟩) (fun b o u ob ho hb hlt hcell => ⟨hcell, fun _ _ => hlt⟩)
    (fun Rd hR _ ob' hob' => by
     obtain rfl := Option.some.inj hob'
     refine ⟨hw0, h1c, fun hwr => by rw [Env.upd_lent]; exact hl0 hwr, ?_⟩
     rcases hrow with ⟨hr, hbn, a, ha⟩ | ⟨b1, cap, cur, hb1, hsv1, hcap, hm, hcur, hcs, hlr, hle⟩
     · exact .inl ⟨hr, by rw [Env.upd_blk]; exact hbn, a, by rw [Env.upd_sv]; exact ha⟩
     · exact .inr ⟨b1, cap, cur, by rw [Env.upd_blk]; exact hb1, by rw [Env.upd_sv]; exact hsv1, hcap, hm, hcur, hcs, hlr.imp fun _ _ hv => hv.mono hR, by rw [Env.upd_lent]; exact hle⟩)
   refine ⟨e.sv k, w, e.blk k, e.lent k, ?_, h1, fun b o u hr => h2 b o u (hR1 b o u hr)⟩
   rw [hsv]
   exact run_append_zero w t ty E i ht hi a a2 n cap cap2 hnc
 · -- something is
   have hmp : 0 < ys.length := by omega
   have husl : us.length = ys.length * sz := by rw [hyl.1, hyf]
   have husne : us ≠ [] := by
    intro hh
    rw [hh] at husl
    have := Nat.mul_pos hmp hpos
    simp at husl
    omega
   obtain ⟨b2, o2, rfl, hcells⟩ := hya husne
   have hnews : ∀ (j : Nat) u, us[j]? = some u → w.cell? ((⟨b2, o2, none⟩ : Addr).add j) = some u := fun j u hj => by
    rw [Addr.add_lit]; exact (hcells j u hj).1
   have hus1 := hyl.one hy1
   -- a new block
   have grown : ∀ (olds : List Value), LR (VR (RDx w0 Rd0 e (hkill k h) w) none) rows.flatten olds → ∀ (old : Nat) (wv : World), wv.heap = w.drew.heap → Bx w0 wv.drew → ∀ nc, rows.length + ys.length ≤ nc → nc ≤ maxLen →
    SR w0 Rd0 (e.upd k (some w.heap.size) (.slice (some ⟨w.heap.size, 0, none⟩) (rows.length + ys.length) nc) 0) ((k, some (.arr E sz (rows ++ ys) wr)) :: hkill k h)
     (w.drew.alloc (.cells (olds.toArray ++ us.toArray ++ Builtin.zeroCells z.cells (nc - (rows.length + ys.length))) E)) ∧
    ∀ b o u, RDx w0 Rd0 e (hkill k h) w b o u → RDx w0 Rd0 (e.upd k (some w.heap.size) (.slice (some ⟨w.heap.size, 0, none⟩) (rows.length + ys.length) nc) 0) ((k, some (.arr E sz (rows ++ ys) wr)) :: hkill k h)
     (w.drew.alloc (.cells (olds.toArray ++ us.toArray ++ Builtin.zeroCells z.cells (nc - (rows.length + ys.length))) E)) b o u := by
    intro olds holds old wv _ _ nc hnc hncm
    have hsize : (olds.toArray ++ us.toArray ++ Builtin.zeroCells z.cells (nc - (rows.length + ys.length))).size = nc * sz := by
     simp only [Array.size_append, List.size_toArray, size_zeroCells, hzs, holds.1, hrf, husl, ← Nat.add_mul]
     congr 1
     omega
    have hold : ∀ b, b < w.heap.size → (w.drew.alloc (.cells (olds.toArray ++ us.toArray ++ Builtin.zeroCells z.cells (nc - (rows.length + ys.length))) E)).heap[b]? = w.heap[b]? := fun b hb => hOld w.drew _ b hb
    refine hs1.turn k (some w.heap.size) _ 0 _ ((hs.ext.drew).alloc _) (.inl ⟨hn1, hk0⟩) (by simp) (fun b hb _ => hold b hb) (fun b hb _ => ?_) (fun b o u ob ho hb hlt hcell => ?_) (fun Rd hR _ ob' hob' => ?_)
    · obtain rfl := Option.some.inj hb
      exact ⟨hs.ext.mine (Nat.le_refl _), by simp, .inr (Nat.le_refl _)⟩
    · have hblt := (hs1.base _ _ _ ho hb).2
      refine ⟨by rw [World.cell?_of_block (w := w) (hold b hblt)]; exact hcell, fun _ hbb => ?_⟩
      obtain rfl := Option.some.inj hbb
      omega
    · obtain rfl := Option.some.inj hob'
      refine ⟨hww, hw1, fun _ => Env.upd_lent, .inr ⟨w.heap.size, nc, _, Env.upd_blk, ?_, ?_, hncm, hNew w.drew _, hsize, ?_, by rw [Env.upd_lent]; exact Nat.zero_le _⟩⟩
      · rw [Env.upd_sv, List.length_append]
      · rw [List.length_append]; exact hnc
      · rw [List.flatten_append]
        have e1 : (olds.toArray ++ us.toArray ++ Builtin.zeroCells z.cells (nc - (rows.length + ys.length))).toList.take (rows.flatten ++ ys.flatten).length = olds ++ us := by
         rw [Array.toList_append, Array.toList_append, List.length_append, ← holds.1, ← hyl.1, ← List.length_append]
         exact List.take_left
        rw [e1]
        exact (holds.imp fun _ _ hv => hv.mono hR).append (hyl.imp fun _ _ hv => hv.mono fun b o u hr => hR b o u (hR1 b o u hr))
   have hgm : ∀ old, grownCap w (rows.length + ys.length) old E ≤ maxLen := fun old => grownCap_le_maxLen w _ old E (by unfold maxLen; exact h63)
   rcases hrow with ⟨hr, hbn, a, ha⟩ | ⟨b1, cap, cur, hb1, hsv1, hcap, hm, hcur, hcs, hlr, hle⟩
   · subst hr
     simp only [List.length_nil, Nat.zero_add, List.nil_append] at *
     have hg := grown [] LR.nil 0 w rfl hs.ext.drew (grownCap w ys.length 0 E) (grownCap_ge w _ 0 E) (hgm 0)
     cases a with
     | none =>
      refine ⟨_, _, some w.heap.size, 0, ?_, hg.1, fun b o u hr => hg.2 b o u (hR1 b o u hr)⟩
      rw [ha]
      have := run_append_nil (P := P) w t ty E i z ht hi hz ⟨b2, o2, none⟩ ys.length cap2 us (by rw [husl, hsz]) hnews hmp (by omega) (by omega)
      simpa using this
     | some a =>
      refine ⟨_, _, some w.heap.size, 0, ?_, hg.1, fun b o u hr => hg.2 b o u (hR1 b o u hr)⟩
      rw [ha]
      have := run_append_grow (P := P) w t ty E i z ht hi hz a 0 0 [] (by simp) (by simp) ⟨b2, o2, none⟩ ys.length cap2 us (by rw [husl, hsz]) hnews (by omega) (by omega) (by rw [Nat.zero_add, nextslicecap_zero hmp]; omega)
      simpa using this
   · by_cases hroom : rows.length + ys.length ≤ cap
     · -- in place
       have hfit : rows.length * i.size + us.length ≤ cur.size := by rw [hsz, husl, hcs, ← Nat.add_mul]; exact Nat.mul_le_mul_right _ hroom
       have hr := run_append_room (P := P) w t ty E i ht hi b1 rows.length cap cur hcur ⟨b2, o2, none⟩ ys.length cap2 us (by rw [husl, hsz]) hnews hus1 hroom hfit
       have hbase := hs1.base _ _ _ hk1 hb1
       have hpre : cur.toList.take (rows.length * i.size) = cur.toList.take rows.flatten.length := by rw [hsz, hrf]
       have hplen : (cur.toList.take rows.flatten.length).length = rows.flatten.length := hlr.1
       rw [hpre] at hr
       refine ⟨_, _, some b1, e.lent k, by rw [hsv1]; exact hr, ?_⟩
       have hset := setRow_heap w b1 cur ((cur.toList.take rows.flatten.length ++ us ++ cur.toList.drop (rows.length * i.size + us.length)).toArray) E (0, 0) hcur
       obtain ⟨h1, h2⟩ := hs1.turn (w' := w.setRow b1 (cur.toList.take rows.flatten.length ++ us ++ cur.toList.drop (rows.length * i.size + us.length)).toArray) k (some b1) (.slice (some ⟨b1, 0, none⟩) (rows.length + ys.length) cap) (e.lent k) (some (.arr E sz (rows ++ ys) wr))
        (hs.ext.setRow hbase.1 _) (.inl ⟨hn1, hk0⟩) (by simp) (fun b hb hne => setRow_other w b1 b _ (fun hh => hne _ hk1 (by rw [hb1]; exact congrArg some hh.symm)))
        (fun b hb _ => by
         obtain rfl := Option.some.inj hb
         exact ⟨hbase.1, by simp; exact hbase.2, .inl ⟨_, hk1, hb1⟩⟩)
        (fun b o u ob ho hb hlt hcell => by
         obtain rfl : b1 = b := Option.some.inj (hb1.symm.trans hb)
         refine ⟨?_, fun _ _ => hlt⟩
         have ho' : o < rows.flatten.length := by omega
         rw [cell_of_row w b1 o cur E (0, 0) hcur] at hcell
         rw [cell_of_row _ b1 o _ E (0, 0) hset]
         have : o < (cur.toList.take rows.flatten.length).length := by omega
         simp only [List.getElem?_toArray]
         rw [List.append_assoc, List.getElem?_append_left this, List.getElem?_take, if_pos ho']
         simpa using hcell)
        (fun Rd hR _ ob' hob' => by
         obtain rfl := Option.some.inj hob'
         refine ⟨hww, hw1, fun hwr => by rw [Env.upd_lent]; exact hl0 hwr, .inr ⟨b1, cap, _, Env.upd_blk, by rw [Env.upd_sv, List.length_append], by rw [List.length_append]; exact hroom, hm, hset, ?_, ?_, ?_⟩⟩
         · simp only [List.size_toArray, List.length_append, List.length_drop, Array.length_toList, hplen]
           rw [hsz] at hfit ⊢
           rw [hrf]
           omega
         · have e1 : (cur.toList.take rows.flatten.length ++ us ++ cur.toList.drop (rows.length * i.size + us.length)).toArray.toList.take (rows ++ ys).flatten.length = cur.toList.take rows.flatten.length ++ us := by
            rw [List.flatten_append, List.length_append, ← hyl.1]
            exact List.take_left' (by rw [List.length_append, hplen])
           rw [e1, List.flatten_append]
           exact (hlr.imp fun _ _ hv => hv.mono hR).append (hyl.imp fun _ _ hv => hv.mono fun b o u hr => hR b o u (hR1 b o u hr))
         · rw [Env.upd_lent, List.flatten_append, List.length_append]; omega)
       exact ⟨h1, fun b o u hr => h2 b o u (hR1 b o u hr)⟩
     · have holds : ∀ (j : Nat) u, (cur.toList.take rows.flatten.length)[j]? = some u → w.cell? ((⟨b1, 0, none⟩ : Addr).add j) = some u := fun j u hj => by
        rw [Addr.add_lit, Nat.zero_add, cell_of_row w b1 j cur E (0, 0) hcur]
        rw [List.getElem?_take] at hj
        split at hj
        · simpa using hj
        · cases hj
       have hg := grown _ hlr cap w rfl hs.ext.drew (grownCap w (rows.length + ys.length) cap E) (grownCap_ge w _ cap E) (hgm cap)
       refine ⟨_, _, some w.heap.size, 0, ?_, hg.1, fun b o u hr => hg.2 b o u (hR1 b o u hr)⟩
       rw [hsv1]
       exact run_append_grow (P := P) w t ty E i z ht hi hz ⟨b1, 0, none⟩ rows.length cap (cur.toList.take rows.flatten.length) (by rw [hlr.1, hrf, hsz]) holds ⟨b2, o2, none⟩ ys.length cap2 us (by rw [husl, hsz]) hnews (by omega) (by omega) (growslice_fits (by omega) hby)
end
end
end
noncomputable section
open Go Go.RowKit
structure Ga (w0 : Bs) (Rd0 : Nat → Nat → Value → Prop) (e : Env) (st : St) (a : Act) (w : World) : Prop where
 n : a.tmps.size = st.n ∧ st.n ≤ 1000000
 d : a.defers = w0.df
 sr : SR w0 Rd0 e st.h w
 tr : TR (RDx w0 Rd0 e st.h w) e st.t a.tmps
def cvA : Value → AV
 | .slice none 0 0 => .sl true 0 []
 | x => .v x
def gA (g : Nat) : AV := match gasc gTab g with
 | some (k, l) => .fp (l.map fun x => .v (.int k x))
 | none => .un
def St.ev (s : St) : Operand → AV
 | .tmp i => tget s.t i
 | .const v => cvA v
 | .global g => gA g
 | .func f => .v (.func (.func f) #[] #[])
theorem cvA_ok {Rd : Nat → Nat → Value → Prop} {E : Option Env} (x : Value) : VR Rd E (cvA x) x := by
 unfold cvA
 split
 · exact VR.sl (rows := []) [] (by simp) (by simp) rfl (by simp) (Nat.le_refl _) (Nat.zero_le _) (fun _ => rfl) (by simp)
 · exact .v
theorem Ga.ev {w0 : Bs} {Rd0 : Nat → Nat → Value → Prop} {e : Env} {st : St} {a : Act} {w : World} (h : Ga w0 Rd0 e st a w) (x : Operand) : VR (RDx w0 Rd0 e st.h w) (some e) (st.ev x) (a.eval x) := by
 cases x with
 | tmp i => exact h.tr i
 | const v => exact cvA_ok v
 | global g =>
  simp only [St.ev, gA]
  split
  · rename_i k l hg
    refine VR.fp (o := 0) (l.map fun x => Value.int k x) (by simp) (fun j c u hc hu => ?_) fun j u hu => ?_
    · rw [List.getElem?_map] at hc hu
      cases hx : l[j]? with
      | none => rw [hx] at hc; cases hc
      | some x => rw [hx] at hc hu; cases hc; cases hu; exact .v
    · rw [List.getElem?_map] at hu
      cases hx : l[j]? with
      | none => rw [hx] at hu; cases hu
      | some x =>
       rw [hx] at hu; cases hu
       rw [Nat.zero_add]
       exact h.sr.glob ⟨k, l, x, hg, hx, rfl⟩
  · exact .un
 | func f => exact .v
def aggD : TypeDesc → Bool
 | .struct _ | .array _ _ => true
 | _ => false
def tyA (P : Program) (t : TypeId) : Option (Bool × Nat) :=
 match P.underlying t, P.info? t with
 | some d, some i => some (aggD d, i.size)
 | _, _ => none
def elA (P : Program) (t : TypeId) : Option (TypeId × Nat × Nat × List Value) :=
 match P.underlying t with
 | some (.slice e) => match P.info? e with
  | some i => match i.zero with
   | some z => if z.cells.size = i.size then some (e, i.size, i.bytes, z.cells.toList) else none
   | none => none
  | none => none
 | _ => none
def arA (P : Program) (t : TypeId) : Option (Nat × TypeId × Nat) :=
 match P.underlying t with
 | some (.array n e) => match P.info? e with
  | some i => some (n, e, i.size)
  | none => none
 | _ => none
def fdA (P : Program) (t : TypeId) (f : Nat) : Option (Nat × Bool × Nat) :=
 match P.underlying t with
 | some (.struct fs) => match fs[f]? with
  | some fl => match tyA P fl.type with
   | some (ag, n) => some (fl.offset, ag, n)
   | none => none
  | none => none
 | _ => none
def cellsAt (st : St) (p : AV) (n : Nat) (cs : List AV) : Prop :=
 match p with
 | .pt k o => ∃ t cs0, hget st.h k = some (.box t cs0) ∧ t ≠ itT ∧ o + n ≤ cs0.length ∧ cs = (cs0.drop o).take n
 | .pe k i sz o => (∃ t rows wr r, hget st.h k = some (.arr t sz rows wr) ∧ rows[i]? = some r ∧ o + n ≤ r.length ∧ cs = (r.drop o).take n) ∨
  ∃ t cs0 c, hget st.h k = some (.nr t cs0) ∧ cs0[i]? = some c ∧ sz = 1 ∧ o = 0 ∧ n = 1 ∧ cs = [c]
 | .fp cs0 => n ≤ cs0.length ∧ cs = cs0.take n
 | _ => False
def RS (P : Program) (o : Oper) (st : St) (c : AV) : Prop :=
 ∀ w0 Rd0 e a w, Ga w0 Rd0 e st a w → ∃ v, VR (RDx w0 Rd0 e st.h w) (some e) c v ∧ ∀ w', Ext w w' → (execOp a.eval o).run P w' = .ok (.value v) w'
section
variable {P : Program} {st : St} {d : Option Tmp} {ty : TypeId} {pos : String} {af : Array Edge} {gd : Option (Nat × Bool)}
theorem RS.move (x : Operand) : RS P ⟨d, .move x, ty, pos, af, gd⟩ st (st.ev x) := fun w0 Rd0 e a w h =>
 ⟨a.eval x, h.ev x, fun w' _ => by simp [execOp]⟩
theorem RS.assign (x : Operand) : RS P ⟨d, .assign x, ty, pos, af, gd⟩ st (st.ev x) := fun w0 Rd0 e a w h =>
 ⟨a.eval x, h.ev x, fun w' _ => by simp [execOp]⟩
theorem RS.pick (c x y : Operand) (t : Bool) (hc : st.ev c = .v (.bool t)) : RS P ⟨d, .pick c x y, ty, pos, af, gd⟩ st (if t then st.ev x else st.ev y) := fun w0 Rd0 e a w h => by
 have h1 := h.ev c
 rw [hc] at h1
 have h2 := h1.v_inv
 cases t
 · exact ⟨a.eval y, by simpa using h.ev y, fun w' _ => by simp [execOp, h2, asBool]⟩
 · exact ⟨a.eval x, by simpa using h.ev x, fun w' _ => by simp [execOp, h2, asBool]⟩
theorem LR.sub {R : AV → Value → Prop} {cs : List AV} {us : List Value} (h : LR R cs us) (o n : Nat) (hn : o + n ≤ cs.length) : LR R ((cs.drop o).take n) ((us.drop o).take n) ∧ ((us.drop o).take n).length = n := by
 refine ⟨(h.drop o).take n, ?_⟩
 rw [List.length_take, List.length_drop, h.1]
 omega
theorem cellsAt_ok {w0 : Bs} {Rd0 : Nat → Nat → Value → Prop} {e : Env} {a : Act} {w : World} (h : Ga w0 Rd0 e st a w) {p : AV} {n : Nat} {cs : List AV} (hc : cellsAt st p n cs) {v : Value} (hv : VR (RDx w0 Rd0 e st.h w) (some e) p v) :
 ∃ b o us, v = .pointer (some ⟨b, o, none⟩) ∧ us.length = n ∧ LR (VR (RDx w0 Rd0 e st.h w) (some e)) cs us ∧ ∀ (j : Nat) u, us[j]? = some u → w.cell? ⟨b, o + j, none⟩ = some u := by
 cases p with
 | pt k o =>
  obtain ⟨t, cs0, hk, hti, hn, rfl⟩ := hc
  cases hv with
  | pt hb =>
   obtain ⟨_, b1, us, hb1, hus, hlr⟩ := h.sr.ob _ _ hk
   obtain rfl := Option.some.inj (hb1.symm.trans hb)
   have hs := hlr.sub o n hn
   refine ⟨b1, o, _, rfl, hs.2, hs.1, fun j u hj => ?_⟩
   rw [cell_of_row w b1 (o + j) us.toArray t (0, 0) (hus.cells hti)]
   rw [List.getElem?_take] at hj
   split at hj
   · rw [List.getElem?_drop] at hj; simpa using hj
   · cases hj
 | pe k i sz o =>
  rcases hc with hc | ⟨t, cs0, c, hk, hc, rfl, rfl, rfl, rfl⟩
  case inr =>
   cases hv with
   | pe hb =>
    obtain ⟨_, hrow⟩ := h.sr.ob _ _ hk
    rcases hrow with ⟨_, hbn, _⟩ | ⟨b1, cap, cur, hb1, hsv, hcap, hm, hcur, hcs, hlr⟩
    · rw [hbn] at hb; cases hb
    obtain rfl := Option.some.inj (hb1.symm.trans hb)
    obtain ⟨u, hu, hvu⟩ := hlr.get hc
    have hi : i < cs0.length := (List.getElem?_eq_some_iff.1 hc).1
    refine ⟨b1, i * 1 + 0, [u], rfl, rfl, LR.cons hvu LR.nil, fun j u' hj => ?_⟩
    cases j with
    | zero =>
     simp at hj; subst hj
     rw [cell_of_row w b1 _ cur t (0, 0) hcur]
     rw [List.getElem?_take, if_pos hi] at hu
     simpa using hu
    | succ j => simp at hj
  obtain ⟨t, rows, wr, r, hk, hr, hn, rfl⟩ := hc
  cases hv with
  | pe hb =>
   obtain ⟨hw, h1c, _, hrow⟩ := h.sr.ob _ _ hk
   rcases hrow with ⟨_, hbn, _⟩ | ⟨b1, cap, cur, hb1, hsv, hcap, hm, hcur, hcs, hlr, hle⟩
   · rw [hbn] at hb; cases hb
   obtain rfl := Option.some.inj (hb1.symm.trans hb)
   have hrl : r.length = sz := hw r (List.mem_of_getElem? hr)
   have hin : i < rows.length := (List.getElem?_eq_some_iff.1 hr).1
   have hfl : (rows.flatten.drop (i * sz)).take sz = r := by
    have : ∀ (rows : List (List AV)) (i : Nat), (∀ r ∈ rows, r.length = sz) → rows[i]? = some r → (rows.flatten.drop (i * sz)).take sz = r := by
     intro rows
     induction rows with
     | nil => intro i _ hh; simp at hh
     | cons x rows ih =>
      intro i hw hh
      have hx : x.length = sz := hw x (by simp)
      cases i with
      | zero =>
       simp at hh
       subst hh
       simp only [Nat.zero_mul, List.drop_zero, List.flatten_cons]
       exact List.take_left' hx
      | succ i =>
       rw [List.flatten_cons, Nat.add_mul, Nat.one_mul, Nat.add_comm, ← hx, List.drop_length_add_append]
       rw [hx]
       exact ih i (fun r hr => hw r (by simp [hr])) (by simpa using hh)
    exact this rows i hw hr
   have hsub : ((rows.flatten.drop (i * sz + o)).take n) = (r.drop o).take n := by
    rw [← hfl, ← List.drop_drop, List.drop_take, List.take_take]
    congr 1
    omega
   have hlen : i * sz + o + n ≤ rows.flatten.length := by
    rw [flatten_len hw]
    have : (i + 1) * sz ≤ rows.length * sz := Nat.mul_le_mul_right _ hin
    rw [Nat.add_mul] at this
    omega
   have hs := hlr.sub (i * sz + o) n hlen
   rw [hsub] at hs
   refine ⟨b1, i * sz + o, _, rfl, hs.2, hs.1.imp fun _ _ hv => hv.some_of_none, fun j u hj => ?_⟩
   rw [cell_of_row w b1 _ cur t (0, 0) hcur]
   rw [List.getElem?_take] at hj
   split at hj
   · rw [List.getElem?_drop, List.getElem?_take] at hj
     split at hj
     · simpa using hj
     · cases hj
   · cases hj
 | fp cs0 =>
  obtain ⟨hn, rfl⟩ := hc
  cases hv with
  | fp us hl hcc ha =>
   have hlr : LR (VR (RDx w0 Rd0 e st.h w) none) cs0 us := ⟨hl, hcc⟩
   refine ⟨_, _, us.take n, rfl, by rw [List.length_take, hl]; omega, (hlr.take n).imp fun _ _ hv => hv.some_of_none, fun j u hj => ?_⟩
   rw [List.getElem?_take] at hj
   split at hj
   · exact (ha j u hj).1
   · cases hj
 | un => exact hc.elim
 | v x => exact hc.elim
 | sl tt sz rows => exact hc.elim
 | ow k => exact hc.elim
 | ag cs => exact hc.elim
 | tu vs => exact hc.elim
 | mp k => exact hc.elim
 | sw => exact hc.elim
 | cl fn fs cs => exact hc.elim
theorem run_isAgg {t : TypeId} {td : TypeDesc} (w : World) (h : P.underlying t = some td) : (isAgg t).run P w = .ok (aggD td) w := by
 simp only [isAgg, Sem.run_bind, run_underlying h, Result.andThen_ok]
 cases td <;> simp [aggD]
theorem run_sizeOf' {t : TypeId} {i : TypeInfo} (w : World) (h : P.info? t = some i) : (sizeOf t).run P w = .ok i.size w := by
 simp [sizeOf, typeInfo, h]
theorem tyA_parts {t : TypeId} {ag : Bool} {n : Nat} (h : tyA P t = some (ag, n)) : ∃ td i, P.underlying t = some td ∧ P.info? t = some i ∧ ag = aggD td ∧ n = i.size := by
 unfold tyA at h
 split at h
 · rename_i td i h1 h2
   simp only [Option.some.injEq, Prod.mk.injEq] at h
   exact ⟨td, i, h1, h2, h.1.symm, h.2.symm⟩
 · cases h
theorem run_loadVar' {t : TypeId} {ag : Bool} {n : Nat} (ht : tyA P t = some (ag, n)) {b o : Nat} {us : List Value} {w : World} (hl : us.length = n) (hc : ∀ (j : Nat) u, us[j]? = some u → w.cell? ⟨b, o + j, none⟩ = some u) :
 (ag = true → (loadVar t ⟨b, o, none⟩).run P w = .ok (.agg us.toArray) w) ∧ (ag = false → ∀ u, us = [u] → (loadVar t ⟨b, o, none⟩).run P w = .ok u w) := by
 obtain ⟨td, i, h1, h2, rfl, rfl⟩ := tyA_parts ht
 refine ⟨fun hag => ?_, fun hag u hu => ?_⟩
 · have := run_loadCells_list (P := P) w ⟨b, o, none⟩ us (fun j u hj => by rw [Addr.add_lit]; exact hc j u hj)
   rw [hl] at this
   simp only [loadVar, Sem.run_bind, run_isAgg w h1, Result.andThen_ok, hag, if_true, run_sizeOf' w h2, this, Sem.run_pure]
 · subst hu
   have := hc 0 u rfl
   simp only [Nat.add_zero] at this
   simp only [loadVar, Sem.run_bind, run_isAgg w h1, Result.andThen_ok, hag, Bool.false_eq_true, if_false]
   simp [load, Sem.run, this]
theorem RS.load {t : TypeId} {x : Operand} {ag : Bool} {n : Nat} {cs : List AV} {c : AV} (ht : tyA P t = some (ag, n)) (hc : cellsAt st (st.ev x) n cs) (hr : (ag = true ∧ c = .ag cs) ∨ (ag = false ∧ cs = [c])) :
 RS P ⟨d, .load t x, ty, pos, af, gd⟩ st c := fun w0 Rd0 e a w h => by
 obtain ⟨b, o, us, hv, hl, hlr, hcell⟩ := cellsAt_ok h hc (h.ev x)
 have hrun := fun (w' : World) (hx : Ext w w') => run_loadVar' (P := P) ht (b := b) (o := o) (us := us) (w := w') hl (fun j u hj => hx.cell (hcell j u hj))
 rcases hr with ⟨hag, rfl⟩ | ⟨hag, rfl⟩
 · refine ⟨.agg us.toArray, .ag us hlr.1 hlr.2, fun w' hx => ?_⟩
   have := (hrun w' hx).1 hag
   simp [execOp, Instr.loadAt, Instr.sureAddr, hv, this]
 · obtain ⟨u, rfl⟩ : ∃ u, us = [u] := by
    match us, hlr.1 with
    | [u], _ => exact ⟨u, rfl⟩
   refine ⟨u, hlr.2 0 c u rfl rfl, fun w' hx => ?_⟩
   have := (hrun w' hx).2 hag u rfl
   simp [execOp, Instr.loadAt, Instr.sureAddr, hv, this]
def fieldP (p : AV) (off : Nat) : Option AV :=
 match p with
 | .pt k o => some (.pt k (o + off))
 | .pe k i sz o => some (.pe k i sz (o + off))
 | .fp cs => some (.fp (cs.drop off))
 | _ => none
theorem fieldP_ok {w0 : Bs} {Rd0 : Nat → Nat → Value → Prop} {e : Env} {hp : Hp} {w : World} {p q : AV} {off : Nat} (hq : fieldP p off = some q) {v : Value} (hv : VR (RDx w0 Rd0 e hp w) (some e) p v) :
 ∃ b o, v = .pointer (some ⟨b, o, none⟩) ∧ VR (RDx w0 Rd0 e hp w) (some e) q (.pointer (some ⟨b, o + off, none⟩)) := by
 cases hv with
 | pt hb => simp only [fieldP, Option.some.injEq] at hq; subst hq; exact ⟨_, _, rfl, .pt hb⟩
 | pe hb =>
  simp only [fieldP, Option.some.injEq] at hq; subst hq
  refine ⟨_, _, rfl, ?_⟩
  rw [Nat.add_assoc]
  exact .pe hb
 | fp us hl hc ha =>
  simp only [fieldP, Option.some.injEq] at hq; subst hq
  refine ⟨_, _, rfl, .fp (us.drop off) (by simp [hl]) (fun j c u h1 h2 => ?_) (fun j u hj => ?_)⟩
  · rw [List.getElem?_drop] at h1 h2; exact hc _ c u h1 h2
  · rw [List.getElem?_drop] at hj
    rw [Nat.add_assoc]
    exact ha _ u hj
 | un => simp [fieldP] at hq
 | v => simp [fieldP] at hq
 | sl => simp [fieldP] at hq
 | ow => simp [fieldP] at hq
 | sw => simp [fieldP] at hq
 | ag => simp [fieldP] at hq
 | tu => simp [fieldP] at hq
 | mp => simp [fieldP] at hq
 | cl => simp [fieldP] at hq
theorem RS.fieldAddr {t : TypeId} {x : Operand} {f off n : Nat} {ag : Bool} {q : AV} (ht : fdA P t f = some (off, ag, n)) (hn : n ≠ 0) (hq : fieldP (st.ev x) off = some q) :
 RS P ⟨d, .fieldAddr t x f, ty, pos, af, gd⟩ st q := fun w0 Rd0 e a w h => by
 obtain ⟨b, o, hv, hvq⟩ := fieldP_ok hq (h.ev x)
 refine ⟨_, hvq, fun w' hx => ?_⟩
 unfold fdA at ht
 split at ht
 · rename_i fs h1
   split at ht
   · rename_i fl h2
     split at ht
     · rename_i ag' n' h3
       simp only [Option.some.injEq, Prod.mk.injEq] at ht
       obtain ⟨rfl, rfl, rfl⟩ := ht
       obtain ⟨td, i, h4, h5, _, rfl⟩ := tyA_parts h3
       have hadd : (⟨b, o, none⟩ : Addr).add fl.offset = ⟨b, o + fl.offset, none⟩ := Addr.add_lit ..
       simp [execOp, Instr.fieldAt, run_underlying h1, h2, hv, Instr.sureAddr, fieldPlace, run_sizeOf' w' h5, hn, hadd]
     · cases ht
   · cases ht
 · cases ht
theorem elA_parts {t E : TypeId} {sz by_ : Nat} {z : List Value} (h : elA P t = some (E, sz, by_, z)) : ∃ i zv, P.underlying t = some (.slice E) ∧ P.info? E = some i ∧ i.zero = some zv ∧ zv.cells.size = sz ∧ i.size = sz ∧ i.bytes = by_ ∧ zv.cells.toList = z := by
 unfold elA at h
 split at h
 · rename_i E' h1
   split at h
   · rename_i i h2
     split at h
     · rename_i zv h3
       split at h
       · rename_i h4
         simp only [Option.some.injEq, Prod.mk.injEq] at h
         obtain ⟨rfl, rfl, rfl, rfl⟩ := h
         exact ⟨i, zv, h1, h2, h3, h4, rfl, rfl, rfl⟩
       · cases h
     · cases h
   · cases h
 · cases h
theorem arA_parts {t E : TypeId} {n sz : Nat} (h : arA P t = some (n, E, sz)) : ∃ i, P.underlying t = some (.array n E) ∧ P.info? E = some i ∧ i.size = sz := by
 unfold arA at h
 split at h
 · rename_i n' E' h1
   split at h
   · rename_i i h2
     simp only [Option.some.injEq, Prod.mk.injEq] at h
     obtain ⟨rfl, rfl, rfl⟩ := h
     exact ⟨i, h1, h2, rfl⟩
   · cases h
 · cases h
theorem RS.indexSl {t E : TypeId} {x y : Operand} {sz by_ : Nat} {z : List Value} {tt : Bool} {rows : List (List AV)} {k : IntKind} {i : Int} {r : List AV}
 (ht : elA P t = some (E, sz, by_, z)) (hx : st.ev x = .sl tt sz rows) (hy : st.ev y = .v (.int k i)) (h0 : 0 ≤ i) (hr : rows[i.toNat]? = some r) (hpos : 0 < sz) :
 RS P ⟨d, .indexAddr t x y, ty, pos, af, gd⟩ st (.fp r) := fun w0 Rd0 e a w h => by
 obtain ⟨inf, zv, h1, h2, h3, h4, rfl, _, _⟩ := elA_parts ht
 have hvx := h.ev x
 rw [hx] at hvx
 have hvy := h.ev y
 rw [hy] at hvy
 have hvy := hvy.v_inv
 obtain ⟨ad, cap, us, hav, hw, h1c, hlr, hcap, hm, _, ha⟩ := hvx.sl_inv
 have hin : i.toNat < rows.length := (List.getElem?_eq_some_iff.1 hr).1
 have hrl : r.length = inf.size := hw r (List.mem_of_getElem? hr)
 have hfl : (rows.flatten.drop (i.toNat * inf.size)).take inf.size = r := by
  have : ∀ (rows : List (List AV)) (i : Nat), (∀ r ∈ rows, r.length = inf.size) → rows[i]? = some r → (rows.flatten.drop (i * inf.size)).take inf.size = r := by
   intro rows
   induction rows with
   | nil => intro i _ hh; simp at hh
   | cons x rows ih =>
    intro i hw hh
    have hx : x.length = inf.size := hw x (by simp)
    cases i with
    | zero =>
     simp at hh
     subst hh
     simp only [Nat.zero_mul, List.drop_zero, List.flatten_cons]
     exact List.take_left' hx
    | succ i =>
     rw [List.flatten_cons, Nat.add_mul, Nat.one_mul, Nat.add_comm, ← hx, List.drop_length_add_append]
     rw [hx]
     exact ih i (fun r hr => hw r (by simp [hr])) (by simpa using hh)
  exact this rows i.toNat hw hr
 have hlen : i.toNat * inf.size + inf.size ≤ rows.flatten.length := by
  rw [flatten_len hw]
  have : (i.toNat + 1) * inf.size ≤ rows.length * inf.size := Nat.mul_le_mul_right _ hin
  rw [Nat.add_mul] at this
  omega
 have hne : us ≠ [] := by
  intro hh
  have := hlr.1
  rw [hh] at this
  simp only [List.length_nil] at this
  omega
 obtain ⟨b, o, rfl, hcell⟩ := ha hne
 have hs := hlr.sub (i.toNat * inf.size) inf.size hlen
 rw [hfl] at hs
 refine ⟨.pointer (some ⟨b, o + i.toNat * inf.size, none⟩), .fp _ hs.1.1 hs.1.2 (fun j u hj => ?_), fun w' hxx => ?_⟩
 · rw [List.getElem?_take] at hj
   split at hj
   · rw [List.getElem?_drop] at hj
     rw [Nat.add_assoc]
     exact hcell _ u hj
   · cases hj
 · have hadd : (⟨b, o, none⟩ : Addr).add (i.toNat * inf.size) = ⟨b, o + i.toNat * inf.size, none⟩ := Addr.add_lit ..
   have hlt : i < (rows.length : Int) := by omega
   simp [execOp, Instr.indexAt, hvy, asIntOf, run_underlying h1, hav, h0, hlt, run_sizeOf' w' h2, hadd]
theorem RS.indexOw {t E : TypeId} {x y : Operand} {sz by_ : Nat} {z : List Value} {rows : List (List AV)} {wr : Bool} {k : IntKind} {i : Int} {kk : Nat}
 (ht : elA P t = some (E, sz, by_, z)) (hx : st.ev x = .ow kk) (hk : hget st.h kk = some (.arr E sz rows wr)) (hy : st.ev y = .v (.int k i)) (h0 : 0 ≤ i) (h1 : i < rows.length) :
 RS P ⟨d, .indexAddr t x y, ty, pos, af, gd⟩ st (.pe kk i.toNat sz 0) := fun w0 Rd0 e a w h => by
 obtain ⟨inf, zv, h1', h2, h3, h4, rfl, _, _⟩ := elA_parts ht
 have hvx := h.ev x
 rw [hx] at hvx
 have hvy := h.ev y
 rw [hy] at hvy
 have hvy := hvy.v_inv
 obtain ⟨hw, h1c, _, hrow⟩ := h.sr.ob _ _ hk
 rcases hrow with ⟨hnil, hbn, _⟩ | ⟨b1, cap, cur, hb1, hsv, hcap, hm, hcur, hcs, hlr, hle⟩
 · subst hnil; simp at h1; omega
 have hav : a.eval x = .slice (some ⟨b1, 0, none⟩) rows.length cap := by
  generalize hax : a.eval x = u at hvx
  cases hvx with
  | ow => exact hsv
 refine ⟨.pointer (some ⟨b1, i.toNat * inf.size + 0, none⟩), .pe hb1, fun w' hxx => ?_⟩
 have hadd : (⟨b1, 0, none⟩ : Addr).add (i.toNat * inf.size) = ⟨b1, i.toNat * inf.size, none⟩ := by rw [Addr.add_lit, Nat.zero_add]
 simp [execOp, Instr.indexAt, hvy, asIntOf, run_underlying h1', hav, h0, h1, run_sizeOf' w' h2, hadd]
theorem RS.indexArr {t E : TypeId} {x y : Operand} {n sz : Nat} {k : IntKind} {i : Int} {q : AV}
 (ht : arA P t = some (n, E, sz)) (hy : st.ev y = .v (.int k i)) (h0 : 0 ≤ i) (h1 : i < n) (hq : fieldP (st.ev x) (i.toNat * sz) = some q) :
 RS P ⟨d, .indexAddr t x y, ty, pos, af, gd⟩ st q := fun w0 Rd0 e a w h => by
 obtain ⟨inf, h1', h2, rfl⟩ := arA_parts ht
 have hvy := h.ev y
 rw [hy] at hvy
 have hvy := hvy.v_inv
 obtain ⟨b, o, hv, hvq⟩ := fieldP_ok hq (h.ev x)
 refine ⟨_, hvq, fun w' hxx => ?_⟩
 have hadd : (⟨b, o, none⟩ : Addr).add (i.toNat * inf.size) = ⟨b, o + i.toNat * inf.size, none⟩ := Addr.add_lit ..
 simp [execOp, Instr.indexAt, hvy, asIntOf, run_underlying h1', hv, Instr.sureAddr, h0, h1, run_sizeOf' w' h2, hadd]
def lenA (st : St) : AV → Option Nat
 | .sl _ _ rows => some rows.length
 | .sw _ _ n _ => some n
 | .ow k => match hget st.h k with
  | some (.arr _ _ rows _) => some rows.length
  | _ => none
 | _ => none
theorem lenA_ok {w0 : Bs} {Rd0 : Nat → Nat → Value → Prop} {e : Env} {a : Act} {w : World} (h : Ga w0 Rd0 e st a w) {c : AV} {n : Nat} (hn : lenA st c = some n) {v : Value} (hv : VR (RDx w0 Rd0 e st.h w) (some e) c v) : ∃ ad cap, v = .slice ad n cap := by
 cases hv with
 | sl us hw h1c hl hc h1 h2 h3 ha => simp only [lenA, Option.some.injEq] at hn; subst hn; exact ⟨_, _, rfl⟩
 | @ow e k =>
  simp only [lenA] at hn
  split at hn
  · rename_i t sz rows wr hk
    simp only [Option.some.injEq] at hn
    subst hn
    obtain ⟨_, _, _, hrow⟩ := h.sr.ob _ _ hk
    rcases hrow with ⟨hnil, _, a, ha⟩ | ⟨b1, cap, cur, hb1, hsv, _⟩
    · subst hnil; exact ⟨a, 0, ha⟩
    · exact ⟨_, cap, hsv⟩
  · cases hn
 | un => simp [lenA] at hn
 | v => simp [lenA] at hn
 | pt => simp [lenA] at hn
 | pe => simp [lenA] at hn
 | sw => simp only [lenA, Option.some.injEq] at hn; subst hn; exact ⟨_, _, rfl⟩
 | fp => simp [lenA] at hn
 | ag => simp [lenA] at hn
 | tu => simp [lenA] at hn
 | mp => simp [lenA] at hn
 | cl => simp [lenA] at hn
def slT (P : Program) (t : TypeId) : Bool := match P.underlying t with | some (.slice _) => true | _ => false
theorem RS.len {t : TypeId} {x : Operand} {ts : Array TypeId} {n : Nat} (hu : slT P t = true) (hts : ts[0]? = some t) (hn : lenA st (st.ev x) = some n) :
 RS P ⟨d, .call ⟨.builtin .len, #[x], ts⟩, ty, pos, af, gd⟩ st (.v (.int .i64 n)) := fun w0 Rd0 e a w h => by
 obtain ⟨ad, cap, hv⟩ := lenA_ok h hn (h.ev x)
 refine ⟨_, .v, fun w' _ => ?_⟩
 unfold slT at hu
 split at hu
 · rename_i E h1
   simp [execOp, resolve, invoke, builtin, Builtin.len_, hts, run_underlying h1, hv, goInt]
 · cases hu
theorem RS.extract {x : Operand} {i : Nat} {vs : List AV} {c : AV} (hx : st.ev x = .tu vs) (hc : vs[i]? = some c) : RS P ⟨d, .extract x i, ty, pos, af, gd⟩ st c := fun w0 Rd0 e a w h => by
 have hv := h.ev x
 rw [hx] at hv
 obtain ⟨us, hau, hlr⟩ := hv.tu_inv
 obtain ⟨u, hu, hr⟩ := hlr.get hc
 exact ⟨u, hr, fun w' _ => by simp [execOp, Instr.extract, hau, hu]⟩
theorem RS.field {t : TypeId} {x : Operand} {f off n : Nat} {ag : Bool} {cs : List AV} {c : AV} (ht : fdA P t f = some (off, ag, n)) (hx : st.ev x = .ag cs) (hn : off + n ≤ cs.length)
 (hr : (ag = true ∧ c = .ag ((cs.drop off).take n)) ∨ (ag = false ∧ cs[off]? = some c)) : RS P ⟨d, .field t x f, ty, pos, af, gd⟩ st c := fun w0 Rd0 e a w h => by
 have hv := h.ev x
 rw [hx] at hv
 obtain ⟨us, hau, hlr⟩ := hv.ag_inv
 unfold fdA at ht
 split at ht
 · rename_i fs h1
   split at ht
   · rename_i fl h2
     split at ht
     · rename_i ag' n' h3
       simp only [Option.some.injEq, Prod.mk.injEq] at ht
       obtain ⟨rfl, rfl, rfl⟩ := ht
       obtain ⟨td, i, h4, h5, hag, rfl⟩ := tyA_parts h3
       rcases hr with ⟨ha, rfl⟩ | ⟨ha, hc⟩
       · have hs := hlr.sub fl.offset i.size hn
         refine ⟨.agg ((us.drop fl.offset).take i.size).toArray, .ag _ hs.1.1 hs.1.2, fun w' _ => ?_⟩
         rw [ha] at hag
         have e1 : us.toArray.extract fl.offset (fl.offset + i.size) = ((us.drop fl.offset).take i.size).toArray := by
          simp [List.extract_eq_drop_take']
         simp [execOp, Instr.field, run_underlying h1, h2, hau, asAgg, part, run_isAgg w' h4, ← hag, run_sizeOf' w' h5, e1]
       · obtain ⟨u, hu, hru⟩ := hlr.get hc
         refine ⟨u, hru, fun w' _ => ?_⟩
         rw [ha] at hag
         simp [execOp, Instr.field, run_underlying h1, h2, hau, asAgg, part, run_isAgg w' h4, ← hag, hu]
     · cases ht
   · cases ht
 · cases ht
def AV.val : AV → Value
 | .v x => x
 | _ => undef
end
end
noncomputable section
open Go Go.RowKit
def SS (P : Program) (o : Oper) (st : St) (K : St → Prop) : Prop :=
 ∀ w0 Rd0 e a w next Q, Ga w0 Rd0 e st a w → (∀ st', K st' → ∀ e' a' w', Ga w0 Rd0 e' st' a' w' → next a' w') → o.wp P a w next Q
section
variable {P : Program} {st : St} {d : Nat} {ty : TypeId} {pos : String} {af : Array Edge} {gd : Option (Nat × Bool)} {K : St → Prop}
theorem wp_value {o : Oper} {a : Act} {w w' : World} {v : Value} {next : Act → World → Prop} {Q : Exit → Act → World → Prop} (hr : (execOp a.eval o).run P w = .ok (.value v) w') (h : next (a.put o.dst v) w') : o.wp P a w next Q := by
 unfold Oper.wp; rw [hr]; exact h
theorem wp_none {o : Oper} {a : Act} {w w' : World} {next : Act → World → Prop} {Q : Exit → Act → World → Prop} (hr : (execOp a.eval o).run P w = .ok .skip w') (h : next (a.put o.dst undef) w') : o.wp P a w next Q := by
 unfold Oper.wp; rw [hr]; exact h
theorem Ga.put {w0 : Bs} {Rd0 : Nat → Nat → Value → Prop} {e : Env} {a : Act} {w : World} (h : Ga w0 Rd0 e st a w) {c : AV} {v : Value} (hd : d < st.n) (hv : VR (RDx w0 Rd0 e st.h w) (some e) c v) :
 Ga w0 Rd0 e ⟨st.n, (d, c) :: st.t, st.h⟩ (a.put (some d) v) w :=
 ⟨by simpa [Act.put] using h.n, h.d, h.sr, h.tr.put (by rw [h.n.1]; exact hd) hv⟩
theorem SS.read {op : Op} {c : AV} (hr : RS P ⟨some d, op, ty, pos, af, gd⟩ st c) (hd : d < st.n) (hK : K ⟨st.n, (d, c) :: st.t, st.h⟩) : SS P ⟨some d, op, ty, pos, af, gd⟩ st K := by
 intro w0 Rd0 e a w next Q h hn
 obtain ⟨v, hv, hrun⟩ := hr w0 Rd0 e a w h
 exact wp_value (hrun w (Ext.refl w)) (hn _ hK _ _ _ (h.put hd hv))
def cellsOf : AV → Option (List AV)
 | .ag cs => some cs
 | c => if c.one then some [c] else none
theorem oneCell_cells {u : Value} (h : u.oneCell' = true) : u.cells = #[u] := by
 cases u <;> simp_all [Value.oneCell', Value.cells]
theorem cellsOf_ok {Rd : Nat → Nat → Value → Prop} {e : Env} {c : AV} {cs : List AV} {u : Value} (hc : cellsOf c = some cs) (hv : VR Rd (some e) c u) (hs : ∀ k, c = .ow k → (e.sv k).oneCell' = true) :
 ∃ us, u.cells = us.toArray ∧ LR (VR Rd (some e)) cs us := by
 cases c with
 | ag cs' =>
  simp only [cellsOf, Option.some.injEq] at hc
  subst hc
  obtain ⟨us, rfl, hlr⟩ := hv.ag_inv
  exact ⟨us, rfl, hlr⟩
 | _ =>
  simp only [cellsOf] at hc
  split at hc
  · rename_i h1
    simp only [Option.some.injEq] at hc
    subst hc
    have := hv.oneCell h1 (fun e' k he hk => by cases he; exact hs k hk)
    exact ⟨[u], by rw [oneCell_cells this], LR.cons hv LR.nil⟩
  · cases hc
theorem Ga.svOne {w0 : Bs} {Rd0 : Nat → Nat → Value → Prop} {e : Env} {a : Act} {w : World} (h : Ga w0 Rd0 e st a w) {k : Nat} (hk : (match hget st.h k with | some (.arr ..) => true | some (.nr ..) => true | _ => false) = true) : (e.sv k).oneCell' = true := by
 split at hk
 · rename_i t sz rows wr hg
   obtain ⟨_, _, _, hrow⟩ := h.sr.ob _ _ hg
   rcases hrow with ⟨_, _, a, ha⟩ | ⟨b1, cap, cur, hb1, hsv, _⟩
   · rw [ha]; rfl
   · rw [hsv]; rfl
 · rename_i t cs hg
   obtain ⟨_, hrow⟩ := h.sr.ob _ _ hg
   rcases hrow with ⟨_, _, a, ha⟩ | ⟨b1, cap, cur, hb1, hsv, _⟩
   · rw [ha]; rfl
   · rw [hsv]; rfl
 · cases hk
def owOk (h : Hp) : AV → Bool
 | .ow k => match hget h k with | some (.arr ..) => true | some (.nr ..) => true | _ => false
 | _ => true
theorem Ga.owOk {w0 : Bs} {Rd0 : Nat → Nat → Value → Prop} {e : Env} {a : Act} {w : World} (h : Ga w0 Rd0 e st a w) {c : AV} (hc : owOk st.h c = true) : ∀ k, c = .ow k → (e.sv k).oneCell' = true := by
 rintro k rfl
 exact h.svOne hc
theorem Ga.new {w0 : Bs} {Rd0 : Nat → Nat → Value → Prop} {e : Env} {a : Act} {w : World} (h : Ga w0 Rd0 e st a w) (hd : d < st.n) (t : TypeId) (hti : t ≠ itT) {cs : List AV} {us : List Value} (hl : LR (VR (RDx w0 Rd0 e st.h w) (some e)) cs us) :
 ∃ e', Ga w0 Rd0 e' ⟨st.n, (d, .pt d 0) :: tkill d st.t, (d, some (.box t (cs.map (AV.kill d)))) :: hkill d st.h⟩ (a.put (some d) (.pointer (some ⟨w.heap.size, 0, none⟩))) (w.alloc (.cells us.toArray t)) := by
 obtain ⟨hs1, hR1⟩ := h.sr.kill d
 obtain ⟨hs2, hR2⟩ := hs1.newBox d t hti ((hl.imp fun _ _ hv => hv.mono hR1).kill d) (hnom_kill d st.h) (by have := h.n.2; omega) (mentL_kill d cs)
 refine ⟨_, ⟨by simpa [Act.put] using h.n, h.d, hs2, TR.put ?_ (by rw [h.n.1]; exact hd) (.pt Env.upd_blk)⟩⟩
 exact (((h.tr.kill d).mono hR1).mono hR2).env d (tnom_kill d st.t) (fun _ hi => Env.upd_blk' hi) (fun _ hi => Env.upd_sv' hi)
theorem SS.box {t : TypeId} {x : Operand} {cs : List AV} (hti : t ≠ itT) (hc : cellsOf (st.ev x) = some cs) (ho : owOk st.h (st.ev x) = true) (hd : d < st.n)
 (hK : K ⟨st.n, (d, .pt d 0) :: tkill d st.t, (d, some (.box t (cs.map (AV.kill d)))) :: hkill d st.h⟩) : SS P ⟨some d, .box t x, ty, pos, af, gd⟩ st K := by
 intro w0 Rd0 e a w next Q h hn
 obtain ⟨us, hu, hlr⟩ := cellsOf_ok hc (h.ev x) (h.owOk ho)
 obtain ⟨e', hg⟩ := h.new hd t hti hlr
 refine wp_value (v := .pointer (some ⟨w.heap.size, 0, none⟩)) (w' := w.alloc (.cells us.toArray t)) ?_ (hn _ hK _ _ _ hg)
 simp [execOp, Instr.box, newVar, newRow, newObj, hu, Sem.run]
def zeroA (P : Program) (t : TypeId) : Option (List Value) := (P.info? t).bind fun i => i.zero.map fun z => z.cells.toList
theorem cvA_list {Rd : Nat → Nat → Value → Prop} {E : Option Env} (us : List Value) : LR (VR Rd E) (us.map cvA) us :=
 ⟨by simp, fun j c u h1 h2 => by
  rw [List.getElem?_map, h2] at h1
  simp at h1
  subst h1
  exact cvA_ok u⟩
theorem SS.alloc {t : TypeId} {z : List Value} (hti : t ≠ itT) (hz : zeroA P t = some z) (hd : d < st.n)
 (hK : K ⟨st.n, (d, .pt d 0) :: tkill d st.t, (d, some (.box t ((z.map cvA).map (AV.kill d)))) :: hkill d st.h⟩) : SS P ⟨some d, .alloc t, ty, pos, af, gd⟩ st K := by
 intro w0 Rd0 e a w next Q h hn
 obtain ⟨e', hg⟩ := h.new hd t hti (cvA_list z)
 unfold zeroA at hz
 obtain ⟨i, hi, hz⟩ := Option.bind_eq_some_iff.1 hz
 obtain ⟨zv, hzv, rfl⟩ := Option.map_eq_some_iff.1 hz
 refine wp_value (v := .pointer (some ⟨w.heap.size, 0, none⟩)) (w' := w.alloc (.cells zv.cells.toList.toArray t)) ?_ (hn _ hK _ _ _ hg)
 simp [execOp, Instr.alloc, zeroValue, typeInfo, hi, hzv, newVar, newRow, newObj, Sem.run]
def setCells {α : Type} (cs : List α) (o : Nat) : List α → List α
 | [] => cs
 | x :: xs => setCells (cs.set o x) (o + 1) xs
theorem setCells_length {α : Type} : ∀ (xs cs : List α) (o : Nat), (setCells cs o xs).length = cs.length
 | [], _, _ => rfl
 | x :: xs, cs, o => by rw [setCells, setCells_length xs]; simp
theorem TR.envEq {Rd : Nat → Nat → Value → Prop} {e e' : Env} {t : List (Nat × AV)} {tm : Array Value} (h : TR Rd e t tm) (hb : ∀ j, e'.blk j = e.blk j) (hs : ∀ j, e'.sv j = e.sv j) : TR Rd e' t tm := fun i => (h i).envEq rfl hb hs
theorem Ga.storeBox {w0 : Bs} {Rd0 : Nat → Nat → Value → Prop} {k b : Nat} {t : TypeId} (hti : t ≠ itT) : ∀ (xs : List AV) (us : List Value) (o : Nat) {st : St} {e : Env} {a : Act} {w : World} {cs : List AV} (h : Ga w0 Rd0 e st a w) (hk : hget st.h k = some (.box t cs)) (hb : e.blk k = some b)
 (hl : LR (VR (RDx w0 Rd0 e st.h w) (some e)) xs us) (h1 : ∀ u ∈ us, u.oneCell' = true) (hlen : o + xs.length ≤ cs.length) (i : Nat) (o0 : Nat) (ho : o0 + i = o),
 ∃ e' w' h', (storeCells ⟨b, o0, none⟩ us i).run P w = .ok () w' ∧ Ga w0 Rd0 e' ⟨st.n, st.t, (k, some (.box t (setCells cs o xs))) :: h'⟩ a w' ∧ ∀ j, j ≠ k → hget h' j = hget st.h j
 | [], [], o, st, e, a, w, cs, h, hk, hb, hl, h1, hlen, i, o0, ho => by
  obtain ⟨hl0, b1, us1, hb1, hus1, hlr1⟩ := h.sr.ob _ _ hk
  have hbase := h.sr.base _ _ _ hk hb
  obtain ⟨hs, hR⟩ := h.sr.turn k (e.blk k) (e.sv k) 0 (some (.box t cs)) h.sr.ext (.inr ⟨rfl, rfl⟩) (Nat.le_refl _) (fun _ _ _ => rfl)
   (fun b' hb' _ => ⟨(h.sr.base _ _ _ hk hb').1, (h.sr.base _ _ _ hk hb').2, .inl ⟨_, hk, hb'⟩⟩) (fun b' o' u' ob hob hb' hlt hcell => by rw [hl0] at hlt; omega)
   (fun Rd hR _ ob' hob' => by
    obtain rfl := Option.some.inj hob'
    exact ⟨Env.upd_lent, b1, us1, by rw [Env.upd_blk]; exact hb1, hus1, hlr1.imp fun _ _ hv => (hv.mono hR).envEq rfl (fun j => by by_cases hj : j = k <;> simp [Env.upd, hj]) (fun j => by by_cases hj : j = k <;> simp [Env.upd, hj])⟩)
  refine ⟨_, w, st.h, rfl, ⟨h.n, h.d, hs, (h.tr.mono hR).envEq (fun j => by by_cases hj : j = k <;> simp [Env.upd, hj]) (fun j => by by_cases hj : j = k <;> simp [Env.upd, hj])⟩, fun _ _ => rfl⟩
 | x :: xs, u :: us, o, st, e, a, w, cs, h, hk, hb, hl, h1, hlen, i, o0, ho => by
  have hx : VR (RDx w0 Rd0 e st.h w) (some e) x u := hl.2 0 x u rfl rfl
  have hl' : LR (VR (RDx w0 Rd0 e st.h w) (some e)) xs us := ⟨by simpa using hl.1, fun j c v hc hv => hl.2 (j + 1) c v (by simpa using hc) (by simpa using hv)⟩
  obtain ⟨hs, hR⟩ := h.sr.storeBox hti hk hb o hx
  obtain ⟨hl0, b1, us1, hb1, hus1, hlr1⟩ := h.sr.ob _ _ hk
  obtain rfl := Option.some.inj (hb1.symm.trans hb)
  have hbe : ∀ j, (e.upd k (some b1) (e.sv k) 0).blk j = e.blk j := fun j => by by_cases hj : j = k <;> simp [Env.upd, hj, hb]
  have hse : ∀ j, (e.upd k (some b1) (e.sv k) 0).sv j = e.sv j := fun j => by by_cases hj : j = k <;> simp [Env.upd, hj]
  have hg : Ga w0 Rd0 (e.upd k (some b1) (e.sv k) 0) ⟨st.n, st.t, (k, some (.box t (cs.set o x))) :: st.h⟩ a (w.setCell ⟨b1, o, none⟩ u) := ⟨h.n, h.d, hs, (h.tr.mono hR).envEq hbe hse⟩
  simp only [List.length_cons] at hlen
  obtain ⟨e', w', h', hrun, hg', hh'⟩ := Ga.storeBox hti xs us (o + 1) hg hget_same Env.upd_blk (hl'.imp fun _ _ hv => (hv.mono hR).envEq rfl hbe hse) (fun v hv => h1 v (by simp [hv])) (by simp; omega) (i + 1) o0 (by omega)
  refine ⟨e', w', h', ?_, hg', fun j hj => by rw [hh' j hj, hget_other hj]⟩
  have hadd : (⟨b1, o0, none⟩ : Addr).add i = ⟨b1, o, none⟩ := by rw [Addr.add_lit, ho]
  have hlt : o < us1.length := by rw [hlr1.1]; omega
  have hcell : w.cell? ⟨b1, o, none⟩ = some us1[o] := by
   rw [cell_of_row w b1 o us1.toArray t (0, 0) (hus1.cells hti)]; simp [hlt]
  have hfr := frozen_of_row w b1 o us1.toArray t (hus1.cells hti)
  have hone := h1 u (by simp)
  have hst : (store ⟨b1, o, none⟩ u).run P w = .ok () (w.setCell ⟨b1, o, none⟩ u) := by
   cases u <;> simp_all [store, Sem.run, Value.oneCell']
  simp only [storeCells, Sem.run_bind, hadd, hst, Result.andThen_ok]
  exact hrun
 | [], u :: us, _, _, _, _, _, _, _, _, _, hl, _, _, _, _, _ => by have := hl.1; simp at this
 | x :: xs, [], _, _, _, _, _, _, _, _, _, hl, _, _, _, _, _ => by have := hl.1; simp at this
theorem LR.ones {Rd : Nat → Nat → Value → Prop} {e : Env} {cs : List AV} {us : List Value} (h : LR (VR Rd (some e)) cs us) (h1 : cs.all AV.one = true) (hs : ∀ k, .ow k ∈ cs → (e.sv k).oneCell' = true) : ∀ u ∈ us, u.oneCell' = true := by
 intro u hu
 obtain ⟨j, hj, rfl⟩ := List.getElem_of_mem hu
 have hjc : j < cs.length := by rw [← h.1]; exact hj
 have hm := List.getElem_mem hjc
 exact (h.2 j cs[j] us[j] (List.getElem?_eq_getElem hjc) (List.getElem?_eq_getElem hj)).oneCell (List.all_eq_true.1 h1 _ hm) (fun e' k he hk => by cases he; exact hs k (hk ▸ hm))
theorem Ga.ext_heap {w0 : Bs} {Rd0 : Nat → Nat → Value → Prop} {e : Env} {a : Act} {w : World} {n : Nat} {t : List (Nat × AV)} {h h' : Hp} (hg : Ga w0 Rd0 e ⟨n, t, h⟩ a w) (hh : ∀ j, hget h' j = hget h j) : Ga w0 Rd0 e ⟨n, t, h'⟩ a w := by
 have hR : ∀ b o u, RDx w0 Rd0 e h w b o u ↔ RDx w0 Rd0 e h' w b o u := fun b o u => by unfold RDx; simp only [hh]
 exact ⟨hg.n, hg.d, ⟨hg.sr.ext, hg.sr.good, fun k ob hk => (hg.sr.ob k ob (by rw [← hh]; exact hk)).mono fun b o u => (hR b o u).1, fun k ob b hk => hg.sr.base k ob b (by rw [← hh]; exact hk), fun k k' ob ob' b h1 h2 => hg.sr.inj k k' ob ob' b (by rw [← hh]; exact h1) (by rw [← hh]; exact h2), hg.sr.pin⟩, hg.tr.mono fun b o u => (hR b o u).1⟩
theorem SS.storeBox {t bt : TypeId} {x y : Operand} {k o : Nat} {cs xs : List AV} {ag : Bool} {n : Nat} (hti : bt ≠ itT) (hp : st.ev x = .pt k o) (hk : hget st.h k = some (.box bt cs)) (ht : tyA P t = some (ag, n)) (hc : cellsOf (st.ev y) = some xs) (hn : xs.length = n)
 (h1 : xs.all AV.one = true) (ho : owOk st.h (st.ev y) = true) (ho2 : xs.all (owOk st.h) = true) (hlen : o + n ≤ cs.length) (hK : K ⟨st.n, st.t, (k, some (.box bt (setCells cs o xs))) :: st.h⟩) :
 SS P ⟨none, .store t x y, ty, pos, af, gd⟩ st K := by
 intro w0 Rd0 e a w next Q h hn'
 obtain ⟨us, hu, hlr⟩ := cellsOf_ok hc (h.ev y) (h.owOk ho)
 have hvx := h.ev x
 rw [hp] at hvx
 generalize hax : a.eval x = u at hvx
 cases hvx with
 | @pt _ _ _ b hb =>
  obtain ⟨td, i, h2, h3, _, rfl⟩ := tyA_parts ht
  obtain ⟨e', w', h', hrun, hg, hh⟩ := Ga.storeBox (P := P) hti xs us o h hk hb hlr (hlr.ones h1 fun j hj => h.owOk (List.all_eq_true.1 ho2 _ hj) j rfl) (by omega) 0 o rfl
  refine wp_none (w' := w') ?_ (hn' _ hK _ _ _ ((hg.ext_heap (fun j => by
   by_cases hj : j = k
   · subst hj; rw [hget_same, hget_same]
   · rw [hget_other hj, hget_other hj, hh j hj]))))
  have hsz : us.length = i.size := by rw [hlr.1]; exact hn
  simp [execOp, Instr.storeAt, Instr.sureAddr, hax, storeVar, hu, run_sizeOf' w h3, hsz, hrun]
end
end
noncomputable section
open Go Go.RowKit
def AV.fz : AV → Bool
 | .un | .v _ | .sl .. | .fp _ => true
 | _ => false
theorem VR.none_of_fz {Rd : Nat → Nat → Value → Prop} {E : Option Env} {c : AV} {u : Value} (h : VR Rd E c u) (hf : c.fz = true) : VR Rd none c u := by
 cases h with
 | un => exact .un
 | v => exact .v
 | sl us hw h1c hl hc h1 h2 h3 ha => exact .sl us hw h1c hl hc h1 h2 h3 ha
 | fp us hl hc ha => exact .fp us hl hc ha
 | _ => simp [AV.fz] at hf
def plA (P : Program) (t : TypeId) : Option (List Value × (Nat → Option (Nat × Nat))) :=
 match P.info? t, P.underlying t with
 | some it, some (.array _ e) =>
  match it.zero, P.info? e with
  | some z, some ie => some (z.cells.toList, fun i => some (i * ie.size, ie.size))
  | _, _ => none
 | some it, some (.struct fields) =>
  match it.zero, fields.toList.mapM (fun f => (P.info? f.type).map fun i => (f.offset, i.size)) with
  | some z, some places => some (z.cells.toList, fun i => places[i]?)
  | _, _ => none
 | _, _ => none
def fillA {α : Type} (place : Nat → Option (Nat × Nat)) (cs : List α) : List (Nat × List α) → Option (List α)
 | [] => some cs
 | (i, xs) :: rest => match place i with
  | none => none
  | some (off, size) => if xs.length = size ∧ off + size ≤ cs.length then fillA place (setCells cs off xs) rest else none
theorem setCells_ok {α : Type} {R : α → Value → Prop} : ∀ (xs : List α) (us : List Value) (cs : List α) (vs : Array Value) (o : Nat), LR R cs vs.toList → LR R xs us →
 LR R (setCells cs o xs) ((us.zipIdx).foldl (fun (cs : Array Value) (p : Value × Nat) => cs.setIfInBounds (o + p.2) p.1) vs).toList := by
 have key : ∀ (xs : List α) (us : List Value) (cs : List α) (vs : Array Value) (o i : Nat), LR R cs vs.toList → LR R xs us →
  LR R (setCells cs (o + i) xs) ((us.zipIdx i).foldl (fun (cs : Array Value) (p : Value × Nat) => cs.setIfInBounds (o + p.2) p.1) vs).toList := by
  intro xs
  induction xs with
  | nil =>
   intro us cs vs o i h hx
   have : us = [] := List.eq_nil_of_length_eq_zero (by simpa using hx.1)
   subst this
   simpa [setCells] using h
  | cons x xs ih =>
   intro us cs vs o i h hx
   cases us with
   | nil => have := hx.1; simp at this
   | cons u us =>
    have h0 : R x u := hx.2 0 x u rfl rfl
    have h1 : LR R xs us := ⟨by simpa using hx.1, fun j c v hc hv => hx.2 (j + 1) c v (by simpa using hc) (by simpa using hv)⟩
    simp only [setCells, List.zipIdx_cons, List.foldl_cons]
    rw [Nat.add_assoc]
    refine ih us _ _ o (i + 1) ?_ h1
    rw [Array.toList_setIfInBounds]
    exact h.set _ h0
 intro xs us cs vs o h hx
 exact key xs us cs vs o 0 h hx
theorem fill_ok {α : Type} {R : α → Value → Prop} {place : Nat → Option (Nat × Nat)} : ∀ (ps : List (Nat × List α)) (vs : List (Nat × Value)) (cs cs' : List α) (cells : Array Value),
 LR R cs cells.toList → ps.length = vs.length → (∀ (j : Nat) p q, ps[j]? = some p → vs[j]? = some q → p.1 = q.1 ∧ LR R p.2 q.2.cells.toList) → fillA place cs ps = some cs' →
 ∃ cells', Instr.fill place cells vs = some cells' ∧ LR R cs' cells'.toList
 | [], [], cs, cs', cells, h, _, _, hf => by
  simp only [fillA, Option.some.injEq] at hf
  subst hf
  exact ⟨cells, rfl, h⟩
 | (i, xs) :: ps, (i', v) :: vs, cs, cs', cells, h, hl, hp, hf => by
  obtain ⟨rfl, hx⟩ := hp 0 _ _ rfl rfl
  simp only at hx
  simp only [fillA] at hf
  cases hpl : place i with
  | none => simp [hpl] at hf
  | some os =>
   obtain ⟨off, size⟩ := os
   simp only [hpl] at hf
   split at hf
   · rename_i hc
     have h1 := setCells_ok xs v.cells.toList cs cells off h hx
     obtain ⟨cells', hc', hlr⟩ := fill_ok ps vs _ cs' _ h1 (by simpa using hl) (fun j p q hp1 hq1 => hp (j + 1) p q (by simpa using hp1) (by simpa using hq1)) hf
     refine ⟨cells', ?_, hlr⟩
     have hvs : v.cells.size = size := by have := hx.1; simp at this; omega
     have hcl : cells.size = cs.length := by have := h.1; simpa using this
     have hcond : (v.cells.size ≠ size || off + v.cells.size > cells.size) = false := by simp; omega
     simp only [Instr.fill, hpl, hcond]
     rw [if_neg (by simp)]
     rw [← hc']
     congr 1
     rw [← Array.foldl_toList, Array.toList_zipIdx]
   · cases hf
 | [], _ :: _, _, _, _, _, hl, _, _ => by simp at hl
 | _ :: _, [], _, _, _, _, hl, _, _ => by simp at hl
def partsA (st : St) : List (Nat × Operand) → Option (List (Nat × List AV))
 | [] => some []
 | (i, x) :: ps => match cellsOf (st.ev x), partsA st ps with
  | some cs, some r => some ((i, cs) :: r)
  | _, _ => none
def partsOw (st : St) : List (Nat × Operand) → Bool
 | [] => true
 | (_, x) :: ps => owOk st.h (st.ev x) && partsOw st ps
section
variable {P : Program} {st : St} {d : Nat} {dd : Option Tmp} {ty : TypeId} {pos : String} {af : Array Edge} {gd : Option (Nat × Bool)} {K : St → Prop}
theorem parts_ok {w0 : Bs} {Rd0 : Nat → Nat → Value → Prop} {e : Env} {a : Act} {w : World} (h : Ga w0 Rd0 e st a w) : ∀ (ps : List (Nat × Operand)) (qs : List (Nat × List AV)), partsA st ps = some qs → partsOw st ps = true →
 qs.length = (ps.map fun p => (p.1, a.eval p.2)).length ∧ ∀ (j : Nat) p q, qs[j]? = some p → (ps.map fun p => (p.1, a.eval p.2))[j]? = some q → p.1 = q.1 ∧ LR (VR (RDx w0 Rd0 e st.h w) (some e)) p.2 q.2.cells.toList
 | [], qs, hq, _ => by simp only [partsA, Option.some.injEq] at hq; subst hq; simp
 | (i, x) :: ps, qs, hq, ho => by
  simp only [partsA] at hq
  simp only [partsOw, Bool.and_eq_true] at ho
  cases hc : cellsOf (st.ev x) with
  | none => simp [hc] at hq
  | some cs =>
   cases hr : partsA st ps with
   | none => simp [hc, hr] at hq
   | some r =>
    simp only [hc, hr, Option.some.injEq] at hq
    subst hq
    obtain ⟨h1, h2⟩ := parts_ok h ps r hr ho.2
    refine ⟨by simpa using h1, fun j p q hp hq => ?_⟩
    cases j with
    | zero =>
     simp at hp hq
     subst hp; subst hq
     obtain ⟨us, hu, hlr⟩ := cellsOf_ok hc (h.ev x) (h.owOk ho.1)
     exact ⟨rfl, by simpa [hu] using hlr⟩
    | succ j => exact h2 j p q (by simpa using hp) (by simpa using hq)
theorem RS.build {t : TypeId} {parts : Array (Nat × Operand)} {z : List Value} {pl : Nat → Option (Nat × Nat)} {qs : List (Nat × List AV)} {cs : List AV} (ht : plA P t = some (z, pl)) (hq : partsA st parts.toList = some qs) (ho : partsOw st parts.toList = true)
 (hf : fillA pl (z.map cvA) qs = some cs) : RS P ⟨dd, .build t parts, ty, pos, af, gd⟩ st (.ag cs) := fun w0 Rd0 e a w h => by
 obtain ⟨h1, h2⟩ := parts_ok h parts.toList qs hq ho
 have hz : LR (VR (RDx w0 Rd0 e st.h w) (some e)) (z.map cvA) z.toArray.toList := by simpa using cvA_list z
 obtain ⟨cells', hfill, hlr⟩ := fill_ok (place := pl) qs _ (z.map cvA) cs z.toArray hz h1 h2 hf
 refine ⟨.agg cells'.toList.toArray, .ag _ hlr.1 hlr.2, fun w' _ => ?_⟩
 have hb : P.built t (parts.map fun (i, x) => (i, a.eval x)).toList = some cells' := by
  unfold plA at ht
  unfold Program.built
  simp only [Array.toList_map]
  split at ht
  · rename_i it n e h3 h4
    split at ht
    · rename_i zv ie h5 h6
      simp only [Option.some.injEq, Prod.mk.injEq] at ht
      obtain ⟨rfl, rfl⟩ := ht
      simp only [h3, h4, h5, h6]
      simpa using hfill
    · cases ht
  · rename_i it fields h3 h4
    split at ht
    · rename_i zv places h5 h6
      simp only [Option.some.injEq, Prod.mk.injEq] at ht
      obtain ⟨rfl, rfl⟩ := ht
      simp only [h3, h4, h5, h6]
      simpa using hfill
    · cases ht
  · cases ht
 have := run_build w' t _ cells' hb
 simp only [execOp, Sem.run_bind, this, Result.andThen_ok, Sem.run_pure, Array.toArray_toList]
def lendC (h : Hp) : AV → Option (Hp × AV)
 | .ow k => match hget h k with
  | some (.arr t sz rows _) => some ((k, some (.arr t sz rows false)) :: h, .sl false sz rows)
  | _ => none
 | c => if c.fz then some (h, c) else none
def lendCs (h : Hp) : List AV → Option (Hp × List AV)
 | [] => some (h, [])
 | c :: cs => match lendC h c with
  | some (h1, c1) => match lendCs h1 cs with
   | some (h2, cs2) => some (h2, c1 :: cs2)
   | none => none
  | none => none
def lendA (h : Hp) : AV → Option (Hp × AV)
 | .ag cs => match lendCs h cs with
  | some (h1, cs1) => some (h1, .ag cs1)
  | none => none
 | c => lendC h c
def lendAs (h : Hp) : List AV → Option (Hp × List AV)
 | [] => some (h, [])
 | c :: cs => match lendA h c with
  | some (h1, c1) => match lendAs h1 cs with
   | some (h2, cs2) => some (h2, c1 :: cs2)
   | none => none
  | none => none
structure Lent (w0 : Bs) (Rd0 : Nat → Nat → Value → Prop) (e : Env) (h : Hp) (w : World) (e' : Env) (h' : Hp) : Prop where
 sr : SR w0 Rd0 e' h' w
 rd : ∀ b o u, RDx w0 Rd0 e h w b o u → RDx w0 Rd0 e' h' w b o u
 blk : ∀ j, e'.blk j = e.blk j
 sv : ∀ j, e'.sv j = e.sv j
theorem Lent.trans {w0 : Bs} {Rd0 : Nat → Nat → Value → Prop} {e e' e'' : Env} {h h' h'' : Hp} {w : World} (a : Lent w0 Rd0 e h w e' h') (b : Lent w0 Rd0 e' h' w e'' h'') : Lent w0 Rd0 e h w e'' h'' :=
 ⟨b.sr, fun x o u hr => b.rd x o u (a.rd x o u hr), fun j => (b.blk j).trans (a.blk j), fun j => (b.sv j).trans (a.sv j)⟩
theorem Lent.refl {w0 : Bs} {Rd0 : Nat → Nat → Value → Prop} {e : Env} {h : Hp} {w : World} (hs : SR w0 Rd0 e h w) : Lent w0 Rd0 e h w e h := ⟨hs, fun _ _ _ h => h, fun _ => rfl, fun _ => rfl⟩
theorem lendC_ok {w0 : Bs} {Rd0 : Nat → Nat → Value → Prop} {e : Env} {h h' : Hp} {w : World} (hs : SR w0 Rd0 e h w) {c c' : AV} {u : Value} (hv : VR (RDx w0 Rd0 e h w) (some e) c u) (hl : lendC h c = some (h', c')) :
 ∃ e', Lent w0 Rd0 e h w e' h' ∧ VR (RDx w0 Rd0 e' h' w) none c' u := by
 cases c with
 | ow k =>
  simp only [lendC] at hl
  split at hl
  · rename_i t sz rows wr hk
    simp only [Option.some.injEq, Prod.mk.injEq] at hl
    obtain ⟨rfl, rfl⟩ := hl
    obtain ⟨e', h1, h2, h3, h4, h5⟩ := hs.lend hk
    cases hv with
    | ow => exact ⟨e', ⟨h1, h2, h3, h4⟩, h5⟩
  · cases hl
 | _ =>
  simp only [lendC] at hl
  split at hl
  · rename_i hf
    simp only [Option.some.injEq, Prod.mk.injEq] at hl
    obtain ⟨rfl, rfl⟩ := hl
    exact ⟨e, Lent.refl hs, hv.none_of_fz hf⟩
  · cases hl
theorem lendCs_ok {w0 : Bs} {Rd0 : Nat → Nat → Value → Prop} {w : World} : ∀ (cs : List AV) (us : List Value) (e : Env) (h h' : Hp) (cs' : List AV), SR w0 Rd0 e h w → LR (VR (RDx w0 Rd0 e h w) (some e)) cs us → lendCs h cs = some (h', cs') →
 ∃ e', Lent w0 Rd0 e h w e' h' ∧ LR (VR (RDx w0 Rd0 e' h' w) none) cs' us
 | [], us, e, h, h', cs', hs, hv, hl => by
  simp only [lendCs, Option.some.injEq, Prod.mk.injEq] at hl
  obtain ⟨rfl, rfl⟩ := hl
  have : us = [] := List.eq_nil_of_length_eq_zero (by simpa using hv.1)
  subst this
  exact ⟨e, Lent.refl hs, LR.nil⟩
 | c :: cs, us, e, h, h', cs', hs, hv, hl => by
  cases us with
  | nil => have := hv.1; simp at this
  | cons u us =>
   simp only [lendCs] at hl
   split at hl
   · rename_i h1 c1 hc1
     split at hl
     · rename_i h2 cs2 hc2
       simp only [Option.some.injEq, Prod.mk.injEq] at hl
       obtain ⟨rfl, rfl⟩ := hl
       obtain ⟨e1, l1, v1⟩ := lendC_ok hs (hv.2 0 c u rfl rfl) hc1
       have hv' : LR (VR (RDx w0 Rd0 e1 h1 w) (some e1)) cs us := ⟨by simpa using hv.1, fun j x y hx hy => ((hv.2 (j + 1) x y (by simpa using hx) (by simpa using hy)).mono l1.rd).envEq rfl l1.blk l1.sv⟩
       obtain ⟨e2, l2, v2⟩ := lendCs_ok cs us e1 h1 h2 cs2 l1.sr hv' hc2
       exact ⟨e2, l1.trans l2, LR.cons (v1.mono l2.rd) v2⟩
     · cases hl
   · cases hl
theorem lendA_ok {w0 : Bs} {Rd0 : Nat → Nat → Value → Prop} {e : Env} {h h' : Hp} {w : World} (hs : SR w0 Rd0 e h w) {c c' : AV} {u : Value} (hv : VR (RDx w0 Rd0 e h w) (some e) c u) (hl : lendA h c = some (h', c')) :
 ∃ e', Lent w0 Rd0 e h w e' h' ∧ VR (RDx w0 Rd0 e' h' w) none c' u := by
 cases c with
 | ag cs =>
  simp only [lendA] at hl
  split at hl
  · rename_i h1 cs1 hc1
    simp only [Option.some.injEq, Prod.mk.injEq] at hl
    obtain ⟨rfl, rfl⟩ := hl
    obtain ⟨us, rfl, hlr⟩ := hv.ag_inv
    obtain ⟨e', l, v⟩ := lendCs_ok cs us e h h1 cs1 hs hlr hc1
    exact ⟨e', l, .ag us v.1 v.2⟩
  · cases hl
 | _ => exact lendC_ok hs hv (by simpa only [lendA] using hl)
theorem lendAs_ok {w0 : Bs} {Rd0 : Nat → Nat → Value → Prop} {w : World} : ∀ (cs : List AV) (us : List Value) (e : Env) (h h' : Hp) (cs' : List AV), SR w0 Rd0 e h w → LR (VR (RDx w0 Rd0 e h w) (some e)) cs us → lendAs h cs = some (h', cs') →
 ∃ e', Lent w0 Rd0 e h w e' h' ∧ LR (VR (RDx w0 Rd0 e' h' w) none) cs' us
 | [], us, e, h, h', cs', hs, hv, hl => by
  simp only [lendAs, Option.some.injEq, Prod.mk.injEq] at hl
  obtain ⟨rfl, rfl⟩ := hl
  have : us = [] := List.eq_nil_of_length_eq_zero (by simpa using hv.1)
  subst this
  exact ⟨e, Lent.refl hs, LR.nil⟩
 | c :: cs, us, e, h, h', cs', hs, hv, hl => by
  cases us with
  | nil => have := hv.1; simp at this
  | cons u us =>
   simp only [lendAs] at hl
   split at hl
   · rename_i h1 c1 hc1
     split at hl
     · rename_i h2 cs2 hc2
       simp only [Option.some.injEq, Prod.mk.injEq] at hl
       obtain ⟨rfl, rfl⟩ := hl
       obtain ⟨e1, l1, v1⟩ := lendA_ok hs (hv.2 0 c u rfl rfl) hc1
       have hv' : LR (VR (RDx w0 Rd0 e1 h1 w) (some e1)) cs us := ⟨by simpa using hv.1, fun j x y hx hy => ((hv.2 (j + 1) x y (by simpa using hx) (by simpa using hy)).mono l1.rd).envEq rfl l1.blk l1.sv⟩
       obtain ⟨e2, l2, v2⟩ := lendAs_ok cs us e1 h1 h2 cs2 l1.sr hv' hc2
       exact ⟨e2, l1.trans l2, LR.cons (v1.mono l2.rd) v2⟩
     · cases hl
   · cases hl
theorem Ga.lent {w0 : Bs} {Rd0 : Nat → Nat → Value → Prop} {e e' : Env} {a : Act} {w : World} {h' : Hp} (h : Ga w0 Rd0 e st a w) (l : Lent w0 Rd0 e st.h w e' h') : Ga w0 Rd0 e' ⟨st.n, st.t, h'⟩ a w :=
 ⟨h.n, h.d, l.sr, (h.tr.mono l.rd).envEq l.blk l.sv⟩
def pieceT (tt : Bool) (n h : Nat) : Option Nat → Bool
 | some m => m == h
 | none => tt && h == n
def pieceA (tt : Bool) (rows : List (List AV)) (sz : Nat) (l h : Nat) (m : Option Nat) : AV :=
 .sl (pieceT tt rows.length h m) sz ((rows.take h).drop l)
end
end
noncomputable section
open Go Go.RowKit
mutual
def AV.ren (π : Nat → Nat) : AV → AV
 | .un => .un
 | .v x => .v x
 | .sl tt sz rows => .sl tt sz rows
 | .ow j => .ow (π j)
 | .pt j o => .pt (π j) o
 | .pe j i sz o => .pe (π j) i sz o
 | .sw j l n sz => .sw (π j) l n sz
 | .fp cs => .fp cs
 | .mp j => .mp (π j)
 | .ag cs => .ag (AV.renL π cs)
 | .tu cs => .tu (AV.renL π cs)
 | .cl fn fs cs => .cl fn (AV.renL π fs) (AV.renL π cs)
def AV.renL (π : Nat → Nat) : List AV → List AV
 | [] => []
 | c :: cs => AV.ren π c :: AV.renL π cs
def AV.nom (p : Nat → Bool) : AV → Bool
 | .un => true
 | .v _ => true
 | .sl _ _ _ => true
 | .fp _ => true
 | .ow j => !p j
 | .pt j _ => !p j
 | .pe j _ _ _ => !p j
 | .sw j _ _ _ => !p j
 | .mp j => !p j
 | .ag cs => AV.nomL p cs
 | .tu cs => AV.nomL p cs
 | .cl _ fs cs => AV.nomL p fs && AV.nomL p cs
def AV.nomL (p : Nat → Bool) : List AV → Bool
 | [] => true
 | c :: cs => AV.nom p c && AV.nomL p cs
end
theorem renL_map (π : Nat → Nat) : ∀ cs : List AV, AV.renL π cs = cs.map (AV.ren π)
 | [] => rfl
 | c :: cs => by rw [AV.renL, renL_map π cs]; rfl
theorem nomL_get {p : Nat → Bool} : ∀ {cs : List AV}, AV.nomL p cs = true → ∀ (j : Nat) c, cs[j]? = some c → c.nom p = true
 | [], _, j, c, h => by simp at h
 | x :: cs, hm, j, c, h => by
  simp only [AV.nomL, Bool.and_eq_true] at hm
  cases j with
  | zero => simp at h; exact h ▸ hm.1
  | succ j => exact nomL_get hm.2 j c (by simpa using h)
theorem nomL_all {p : Nat → Bool} : ∀ {cs : List AV}, (∀ c ∈ cs, c.nom p = true) → AV.nomL p cs = true
 | [], _ => rfl
 | x :: cs, hm => by simp [AV.nomL, hm x (by simp), nomL_all (cs := cs) fun c hc => hm c (by simp [hc])]
theorem VR.ren {Rd : Nat → Nat → Value → Prop} {E : Option Env} {c : AV} {u : Value} (h : VR Rd E c u) {e e' : Env} (hE : E = some e) (π : Nat → Nat) (hb : ∀ j, e'.blk (π j) = e.blk j) (hs : ∀ j, e'.sv (π j) = e.sv j) :
 VR Rd (some e') (c.ren π) u := by
 have keyL : ∀ (cs : List AV) (us : List Value), us.length = cs.length → (∀ (j : Nat) c u, cs[j]? = some c → us[j]? = some u → VR Rd (some e') (c.ren π) u) → us.length = (AV.renL π cs).length ∧ ∀ (j : Nat) c u, (AV.renL π cs)[j]? = some c → us[j]? = some u → VR Rd (some e') c u := by
  intro cs us hl hc
  rw [renL_map]
  refine ⟨by simpa using hl, fun j c u h1 h2 => ?_⟩
  rw [List.getElem?_map] at h1
  obtain ⟨c0, hc0, rfl⟩ := Option.map_eq_some_iff.1 h1
  exact hc j c0 u hc0 h2
 induction h with
 | un => exact .un
 | v => exact .v
 | sl us hw h1c hl hc h1 h2 h3 ha ih => exact .sl us hw h1c hl hc h1 h2 h3 ha
 | @ow e0 j => cases hE; rw [← hs j]; exact .ow
 | @pt e0 j o b h => cases hE; exact .pt (by rw [hb j]; exact h)
 | @pe e0 j i sz o b h => cases hE; exact .pe (by rw [hb j]; exact h)
 | @sw e0 j l n sz b o cap h ho h1 h2 => cases hE; exact .sw (by rw [hb j]; exact h) ho h1 h2
 | fp us hl hc ha ih => exact .fp us hl hc ha
 | @ag E0 cs us hl hc ih =>
  have := keyL cs us hl fun j c u h1 h2 => ih j c u h1 h2 hE
  exact .ag us this.1 this.2
 | @tu E0 cs us hl hc ih =>
  have := keyL cs us hl fun j c u h1 h2 => ih j c u h1 h2 hE
  exact .tu us this.1 this.2
 | @mp e0 j b h => cases hE; exact .mp (by rw [hb j]; exact h)
 | @cl E0 fn fs cs us xs hl hl2 hc hc2 ih ih2 =>
  have h1 := keyL fs us hl fun j c u h1 h2 => ih j c u h1 h2 hE
  have h2 := keyL cs xs hl2 fun j c u h1 h2 => ih2 j c u h1 h2 hE
  exact .cl us xs h1.1 h2.1 h1.2 h2.2
theorem VR.envp {Rd : Nat → Nat → Value → Prop} {E : Option Env} {c : AV} {u : Value} (h : VR Rd E c u) {e e' : Env} (hE : E = some e) (p : Nat → Bool) (hm : c.nom p = true)
 (hb : ∀ j, p j = false → e'.blk j = e.blk j) (hs : ∀ j, p j = false → e'.sv j = e.sv j) : VR Rd (some e') c u := by
 induction h with
 | un => exact .un
 | v => exact .v
 | sl us hw h1c hl hc h1 h2 h3 ha ih => exact .sl us hw h1c hl hc h1 h2 h3 ha
 | @ow e0 j =>
  cases hE
  rw [← hs j (by simpa [AV.nom] using hm)]; exact .ow
 | @pt e0 j o b h =>
  cases hE
  exact .pt (by rw [hb j (by simpa [AV.nom] using hm)]; exact h)
 | @pe e0 j i sz o b h =>
  cases hE
  exact .pe (by rw [hb j (by simpa [AV.nom] using hm)]; exact h)
 | @sw e0 j l n sz b o cap h ho h1 h2 =>
  cases hE
  exact .sw (by rw [hb j (by simpa [AV.nom] using hm)]; exact h) ho h1 h2
 | fp us hl hc ha ih => exact .fp us hl hc ha
 | @ag E0 cs us hl hc ih => exact .ag us hl fun j c u h1 h2 => ih j c u h1 h2 hE (nomL_get (by simpa [AV.nom] using hm) j c h1)
 | @tu E0 cs us hl hc ih => exact .tu us hl fun j c u h1 h2 => ih j c u h1 h2 hE (nomL_get (by simpa [AV.nom] using hm) j c h1)
 | @mp e0 j b h =>
  cases hE
  exact .mp (by rw [hb j (by simpa [AV.nom] using hm)]; exact h)
 | @cl E0 fn fs cs us xs hl hl2 hc hc2 ih ih2 =>
  simp only [AV.nom, Bool.and_eq_true] at hm
  exact .cl us xs hl hl2 (fun j c u h1 h2 => ih j c u h1 h2 hE (nomL_get hm.1 j c h1)) (fun j c u h1 h2 => ih2 j c u h1 h2 hE (nomL_get hm.2 j c h1))
def AV.kilp (p : Nat → Bool) (c : AV) : AV := if c.nom p then c else .un
def Ob.kilp (p : Nat → Bool) : Ob → Ob
 | .box t cs => .box t (cs.map (AV.kilp p))
 | .arr t sz rows wr => .arr t sz rows wr
 | .mp d es => .mp d es
 | .nr t cs => .nr t (cs.map (AV.kilp p))
def hkilp (p : Nat → Bool) : Hp → Hp
 | [] => []
 | (j, o) :: h => (j, if p j then none else o.map (Ob.kilp p)) :: hkilp p h
def tkilp (p : Nat → Bool) : List (Nat × AV) → List (Nat × AV)
 | [] => []
 | (j, c) :: t => (j, c.kilp p) :: tkilp p t
theorem kilp_nom (p : Nat → Bool) (c : AV) : (c.kilp p).nom p = true := by
 unfold AV.kilp; split
 · assumption
 · rfl
theorem VR.kilp {Rd : Nat → Nat → Value → Prop} {E : Option Env} {c : AV} {u : Value} (h : VR Rd E c u) (p : Nat → Bool) : VR Rd E (c.kilp p) u := by
 unfold AV.kilp; split
 · exact h
 · exact .un
theorem tget_kilp (p : Nat → Bool) : ∀ (t : List (Nat × AV)) (j : Nat), tget (tkilp p t) j = (tget t j).kilp p
 | [], _ => by simp [tkilp, tget, AV.kilp, AV.nom]
 | (i, c) :: t, j => by
  simp only [tkilp, tget]
  split
  · rfl
  · exact tget_kilp p t j
theorem hget_kilp (p : Nat → Bool) : ∀ (h : Hp) (j : Nat), hget (hkilp p h) j = if p j then none else (hget h j).map (Ob.kilp p)
 | [], j => by simp [hkilp, hget]
 | (i, o) :: h, j => by
  simp only [hkilp, hget]
  by_cases hj : j = i
  · subst hj; simp
  · simp only [hj, if_false]; exact hget_kilp p h j
def Ob.ren (π : Nat → Nat) : Ob → Ob
 | .box t cs => .box t (AV.renL π cs)
 | .arr t sz rows wr => .arr t sz rows wr
 | .mp d es => .mp d es
 | .nr t cs => .nr t (AV.renL π cs)
def hren (π : Nat → Nat) : Hp → Hp
 | [] => []
 | (j, o) :: h => (π j, o.map (Ob.ren π)) :: hren π h
def tren (π : Nat → Nat) : List (Nat × AV) → List (Nat × AV)
 | [] => []
 | (j, c) :: t => (j, c.ren π) :: tren π t
theorem tget_ren (π : Nat → Nat) : ∀ (t : List (Nat × AV)) (j : Nat), tget (tren π t) j = (tget t j).ren π
 | [], _ => by simp [tren, tget, AV.ren]
 | (i, c) :: t, j => by
  simp only [tren, tget]
  split
  · rfl
  · exact tget_ren π t j
theorem hget_ren (π : Nat → Nat) (hi : ∀ i j, π i = π j → i = j) : ∀ (h : Hp) (j : Nat), hget (hren π h) (π j) = (hget h j).map (Ob.ren π)
 | [], j => by simp [hren, hget]
 | (i, o) :: h, j => by
  simp only [hren, hget]
  by_cases hj : j = i
  · subst hj; simp
  · have : ¬ π j = π i := fun hh => hj (hi _ _ hh)
    simp only [hj, this, if_false]; exact hget_ren π hi h j
theorem hget_append (h h' : Hp) (k : Nat) : hget (h ++ h') k = if h.any (fun p => p.1 == k) then hget h k else hget h' k := by
 induction h with
 | nil => simp
 | cons p h ih =>
  obtain ⟨i, o⟩ := p
  simp only [List.cons_append, hget, List.any_cons]
  by_cases hk : k = i
  · subst hk; simp
  · have : (i == k) = false := by simp; exact fun h => hk h.symm
    simp only [hk, if_false, this, Bool.false_or]
    exact ih
theorem OR.ren {Rd : Nat → Nat → Value → Prop} {e e' : Env} {w : World} {k : Nat} {ob : Ob} (h : OR Rd e w k ob) (π : Nat → Nat) (hb : ∀ j, e'.blk (π j) = e.blk j) (hs : ∀ j, e'.sv (π j) = e.sv j) (hl : ∀ j, e'.lent (π j) = e.lent j) :
 OR Rd e' w (π k) (ob.ren π) := by
 cases ob with
 | box t cs =>
  obtain ⟨h0, b, us, h1, h2, h3⟩ := h
  have hag := (VR.ag us h3.1 h3.2 : VR Rd (some e) (.ag cs) _).ren rfl π hb hs
  obtain ⟨us', hu, hlr⟩ := VR.ag_inv (by simpa only [AV.ren] using hag)
  have : us' = us := by
   have := congrArg (fun v => match v with | .agg a => a.toList | _ => []) hu
   simpa using this.symm
  subst this
  exact ⟨by rw [hl]; exact h0, b, us', by rw [hb]; exact h1, h2, hlr⟩
 | arr t sz rows wr =>
  obtain ⟨h0, h1, h2, h3⟩ := h
  refine ⟨h0, h1, fun hw => by rw [hl]; exact h2 hw, ?_⟩
  rcases h3 with ⟨a1, a2, a3⟩ | ⟨b, cap, cur, a1, a2, a3, a4, a5, a6, a7, a8⟩
  · exact .inl ⟨a1, by rw [hb]; exact a2, by rw [hs]; exact a3⟩
  · exact .inr ⟨b, cap, cur, by rw [hb]; exact a1, by rw [hs]; exact a2, a3, a4, a5, a6, a7, by rw [hl]; exact a8⟩
 | mp d es =>
  obtain ⟨h0, b, arr, clock, h1, h2, h3⟩ := h
  exact ⟨by rw [hl]; exact h0, b, arr, clock, by rw [hb]; exact h1, h2, h3⟩
 | nr t cs =>
  obtain ⟨h0, h3⟩ := h
  refine ⟨by rw [hl]; exact h0, ?_⟩
  have hln : (AV.renL π cs).length = cs.length := by rw [renL_map, List.length_map]
  rcases h3 with ⟨a1, a2, a3⟩ | ⟨b, cap, cur, a1, a2, a3, a4, a5, a6, a7⟩
  · exact .inl ⟨by rw [a1]; rfl, by rw [hb]; exact a2, by rw [hs]; exact a3⟩
  · have hag := (VR.ag _ a7.1 a7.2 : VR Rd (some e) (.ag cs) _).ren rfl π hb hs
    obtain ⟨us', hu, hlr⟩ := VR.ag_inv (by simpa only [AV.ren] using hag)
    have : us' = cur.toList.take cs.length := by
     have := congrArg (fun v => match v with | .agg a => a.toList | _ => []) hu
     simpa using this.symm
    subst this
    exact .inr ⟨b, cap, cur, by rw [hb]; exact a1, by rw [hs, hln]; exact a2, by rw [hln]; exact a3, a4, a5, a6, by rw [hln]; exact hlr⟩
theorem OR.envp {Rd : Nat → Nat → Value → Prop} {e e' : Env} {w : World} {k : Nat} {ob : Ob} (p : Nat → Bool) (h : OR Rd e w k ob) (hk : p k = false) (hb : ∀ j, p j = false → e'.blk j = e.blk j) (hs : ∀ j, p j = false → e'.sv j = e.sv j) (hl : e'.lent k = e.lent k) :
 OR Rd e' w k (ob.kilp p) := by
 cases ob with
 | box t cs =>
  obtain ⟨h0, b, us, h1, h2, h3⟩ := h
  refine ⟨by rw [hl]; exact h0, b, us, by rw [hb k hk]; exact h1, h2, by simpa using h3.1, fun j c u hc hu => ?_⟩
  rw [List.getElem?_map] at hc
  obtain ⟨c0, hc0, rfl⟩ := Option.map_eq_some_iff.1 hc
  exact ((h3.2 j c0 u hc0 hu).kilp p).envp rfl p (kilp_nom p c0) hb hs
 | arr t sz rows wr =>
  obtain ⟨h0, h1, h2, h3⟩ := h
  refine ⟨h0, h1, fun hw => by rw [hl]; exact h2 hw, ?_⟩
  rcases h3 with ⟨a1, a2, a3⟩ | ⟨b, cap, cur, a1, a2, a3, a4, a5, a6, a7, a8⟩
  · exact .inl ⟨a1, by rw [hb k hk]; exact a2, by rw [hs k hk]; exact a3⟩
  · exact .inr ⟨b, cap, cur, by rw [hb k hk]; exact a1, by rw [hs k hk]; exact a2, a3, a4, a5, a6, a7, by rw [hl]; exact a8⟩
 | mp d es =>
  obtain ⟨h0, b, arr, clock, h1, h2, h3⟩ := h
  exact ⟨by rw [hl]; exact h0, b, arr, clock, by rw [hb k hk]; exact h1, h2, h3⟩
 | nr t cs =>
  obtain ⟨h0, h3⟩ := h
  refine ⟨by rw [hl]; exact h0, ?_⟩
  rcases h3 with ⟨a1, a2, a3⟩ | ⟨b, cap, cur, a1, a2, a3, a4, a5, a6, a7⟩
  · exact .inl ⟨by rw [a1]; rfl, by rw [hb k hk]; exact a2, by rw [hs k hk]; exact a3⟩
  · refine .inr ⟨b, cap, cur, by rw [hb k hk]; exact a1, by rw [hs k hk, List.length_map]; exact a2, by rw [List.length_map]; exact a3, a4, a5, a6, ?_⟩
    rw [List.length_map]
    refine ⟨by simpa using a7.1, fun j c u hc hu => ?_⟩
    rw [List.getElem?_map] at hc
    obtain ⟨c0, hc0, rfl⟩ := Option.map_eq_some_iff.1 hc
    exact ((a7.2 j c0 u hc0 hu).kilp p).envp rfl p (kilp_nom p c0) hb hs
def inB (B k : Nat) : Bool := Nat.ble B k && Nat.blt k (B + 1000)
theorem VR.renp {Rd : Nat → Nat → Value → Prop} {e e' : Env} {c : AV} {u : Value} (h : VR Rd (some e) c u) (p : Nat → Bool) (hm : c.nom p = true) (π : Nat → Nat) (hb : ∀ j, p j = false → e'.blk (π j) = e.blk j) (hs : ∀ j, p j = false → e'.sv (π j) = e.sv j) :
 VR Rd (some e') (c.ren π) u := by
 have h1 := h.envp (e' := ⟨fun k => e'.blk (π k), fun k => e'.sv (π k), e.lent⟩) rfl p hm (fun j hj => hb j hj) (fun j hj => hs j hj)
 exact h1.ren rfl π (fun _ => rfl) (fun _ => rfl)
theorem kilp_of_nom {p : Nat → Bool} {c : AV} (h : c.nom p = true) : c.kilp p = c := by simp [AV.kilp, h]
theorem VR.unren {Rd : Nat → Nat → Value → Prop} {e e' : Env} (π : Nat → Nat) (hb : ∀ j, e'.blk j = e.blk (π j)) (hs : ∀ j, e'.sv j = e.sv (π j)) {E : Option Env} {c' : AV} {u : Value} (h : VR Rd E c' u) (hE : E = some e) : ∀ {c : AV}, c' = c.ren π → VR Rd (some e') c u := by
 have keyL : ∀ (cs0 cs : List AV) (us : List Value), cs0 = AV.renL π cs → us.length = cs0.length → (∀ (j : Nat) c u, cs0[j]? = some c → us[j]? = some u → ∀ {c0 : AV}, c = c0.ren π → VR Rd (some e') c0 u) → us.length = cs.length ∧ ∀ (j : Nat) c u, cs[j]? = some c → us[j]? = some u → VR Rd (some e') c u := by
  intro cs0 cs us he hl hc
  rw [renL_map] at he
  subst he
  exact ⟨by simpa using hl, fun j c u h1 h2 => hc j (c.ren π) u (by simp [h1]) h2 rfl⟩
 induction h with
 | un => intro c hc; cases c <;> simp [AV.ren] at hc; exact .un
 | v => intro c hc; cases c <;> simp [AV.ren] at hc; subst hc; exact .v
 | sl us hw h1c hl hcc h1 h2 h3 ha ih =>
  intro c hc
  cases c <;> simp [AV.ren] at hc
  obtain ⟨rfl, rfl, rfl⟩ := hc
  exact .sl us hw h1c hl hcc h1 h2 h3 ha
 | @ow e0 k =>
  intro c hc
  cases hE
  cases c <;> simp [AV.ren] at hc
  rename_i k'
  subst hc
  rw [← hs k']
  exact .ow
 | pt hbk =>
  intro c hc
  cases hE
  cases c <;> simp [AV.ren] at hc
  obtain ⟨rfl, rfl⟩ := hc
  exact .pt ((hb _).trans hbk)
 | pe hbk =>
  intro c hc
  cases hE
  cases c <;> simp [AV.ren] at hc
  obtain ⟨rfl, rfl, rfl, rfl⟩ := hc
  exact .pe ((hb _).trans hbk)
 | sw hbk ho h1 h2 =>
  intro c hc
  cases hE
  cases c <;> simp [AV.ren] at hc
  obtain ⟨rfl, rfl, rfl, rfl⟩ := hc
  exact .sw ((hb _).trans hbk) ho h1 h2
 | fp us hl hcc ha ih =>
  intro c hc
  cases c <;> simp [AV.ren] at hc
  subst hc
  exact .fp us hl hcc ha
 | ag us hl hcc ih =>
  intro c hc
  cases c <;> simp [AV.ren] at hc
  obtain ⟨k1, k2⟩ := keyL _ _ us hc hl fun j c u h1 h2 => ih j c u h1 h2 hE
  exact .ag us k1 k2
 | tu us hl hcc ih =>
  intro c hc
  cases c <;> simp [AV.ren] at hc
  obtain ⟨k1, k2⟩ := keyL _ _ us hc hl fun j c u h1 h2 => ih j c u h1 h2 hE
  exact .tu us k1 k2
 | mp hbk =>
  intro c hc
  cases hE
  cases c <;> simp [AV.ren] at hc
  subst hc
  exact .mp ((hb _).trans hbk)
 | cl us xs hl hl2 hcc hcc2 ih ih2 =>
  intro c hc
  cases c <;> simp [AV.ren] at hc
  obtain ⟨rfl, h1, h2⟩ := hc
  obtain ⟨k1, k2⟩ := keyL _ _ us h1 hl fun j c u h1 h2 => ih j c u h1 h2 hE
  obtain ⟨k3, k4⟩ := keyL _ _ xs h2 hl2 fun j c u h1 h2 => ih2 j c u h1 h2 hE
  exact .cl us xs k1 k3 k2 k4
theorem OR.unren {Rd : Nat → Nat → Value → Prop} {e e' : Env} {w : World} {k : Nat} {ob : Ob} (π : Nat → Nat) (h : OR Rd e w (π k) (ob.ren π)) (hb : ∀ j, e'.blk j = e.blk (π j)) (hs : ∀ j, e'.sv j = e.sv (π j)) (hl : e'.lent k = e.lent (π k)) : OR Rd e' w k ob := by
 cases ob with
 | box t cs =>
  obtain ⟨h0, b, us, h1, h2, h3⟩ := h
  refine ⟨by rw [hl]; exact h0, b, us, by rw [hb]; exact h1, h2, ?_⟩
  have := (VR.ag us h3.1 h3.2 : VR Rd (some e) (.ag _) _).unren π hb hs rfl (c := .ag cs) (by simp [AV.ren])
  obtain ⟨us', hu, hlr⟩ := VR.ag_inv this
  have : us' = us := by
   have := congrArg (fun v => match v with | .agg a => a.toList | _ => []) hu
   simpa using this.symm
  subst this
  exact hlr
 | arr t sz rows wr =>
  obtain ⟨h0, h1, h2, h3⟩ := h
  refine ⟨h0, h1, fun hw => by rw [hl]; exact h2 hw, ?_⟩
  rcases h3 with ⟨a1, a2, a3⟩ | ⟨b, cap, cur, a1, a2, a3, a4, a5, a6, a7, a8⟩
  · exact .inl ⟨a1, by rw [hb]; exact a2, by rw [hs]; exact a3⟩
  · exact .inr ⟨b, cap, cur, by rw [hb]; exact a1, by rw [hs]; exact a2, a3, a4, a5, a6, a7, by rw [hl]; exact a8⟩
 | mp d es =>
  obtain ⟨h0, b, arr, clock, h1, h2, h3⟩ := h
  exact ⟨by rw [hl]; exact h0, b, arr, clock, by rw [hb]; exact h1, h2, h3⟩
 | nr t cs =>
  obtain ⟨h0, h3⟩ := h
  refine ⟨by rw [hl]; exact h0, ?_⟩
  have hln : (AV.renL π cs).length = cs.length := by rw [renL_map, List.length_map]
  rcases h3 with ⟨a1, a2, a3⟩ | ⟨b, cap, cur, a1, a2, a3, a4, a5, a6, a7⟩
  · exact .inl ⟨List.eq_nil_of_length_eq_zero (by rw [← hln, a1]; rfl), by rw [hb]; exact a2, by rw [hs]; exact a3⟩
  · rw [hln] at a2 a3 a7
    have := (VR.ag _ a7.1 a7.2 : VR Rd (some e) (.ag _) _).unren π hb hs rfl (c := .ag cs) (by simp [AV.ren])
    obtain ⟨us', hu, hlr⟩ := VR.ag_inv this
    have : us' = cur.toList.take cs.length := by
     have := congrArg (fun v => match v with | .agg a => a.toList | _ => []) hu
     simpa using this.symm
    subst this
    exact .inr ⟨b, cap, cur, by rw [hb]; exact a1, by rw [hs]; exact a2, a3, a4, a5, a6, hlr⟩
def asc : List (Nat × Nat) → Nat → Option Nat
 | [], _ => none
 | (p, c) :: D, k => cond (Nat.beq k p) (some c) (asc D k)
def rac : List (Nat × Nat) → Nat → Option Nat
 | [], _ => none
 | (p, c) :: D, k => cond (Nat.beq k c) (some p) (rac D k)
def piX (D : List (Nat × Nat)) (B k : Nat) : Nat := match asc D k with
 | some c => c
 | none => B + k
def dstN : List Nat → Bool
 | [] => true
 | x :: l => !(l.any (Nat.beq x)) && dstN l
def okD (B : Nat) (D : List (Nat × Nat)) : Bool := D.all (fun q => Nat.ble 4294967296 q.1 && !inB B q.2) && dstN (D.map (·.1)) && dstN (D.map (·.2)) && Nat.ble (B + 1000) 4294967296
def okN (D : List (Nat × Nat)) (k : Nat) : Bool := Nat.blt k 1000 || (asc D k).isSome
def obX (D : List (Nat × Nat)) : Ob → Bool
 | .box _ cs => AV.nomL (fun k => !okN D k) cs
 | .nr _ cs => AV.nomL (fun k => !okN D k) cs
 | _ => true
def smallX (D : List (Nat × Nat)) (H : Hp) : Bool := H.all fun p => okN D p.1 && (match p.2 with | some ob => obX D ob | none => true)
def hdel (D : List (Nat × Nat)) : Hp := D.map fun q => (q.2, none)
theorem nbeq_no {i j : Nat} (h : ¬ i = j) : Nat.beq i j = false := by
 cases hb : Nat.beq i j with
 | false => rfl
 | true => exact absurd (Nat.eq_of_beq_eq_true hb) h
theorem asc_mem : ∀ {D : List (Nat × Nat)} {p c : Nat}, asc D p = some c → (p, c) ∈ D
 | [], p, c, h => by cases h
 | (q, x) :: D, p, c, h => by
  simp only [asc] at h
  by_cases e : p = q
  · subst e; rw [Nat.beq_refl] at h; cases h; simp
  · rw [nbeq_no e] at h; exact List.mem_cons_of_mem _ (asc_mem h)
theorem dstN_mem : ∀ {l : List Nat} {x : Nat}, dstN (x :: l) = true → x ∉ l := fun {l x} h hm => by
 simp only [dstN, Bool.and_eq_true, Bool.not_eq_true', List.any_eq_false] at h
 exact h.1 x hm (Nat.beq_refl x)
theorem rac_of : ∀ {D : List (Nat × Nat)} {p c : Nat}, dstN (D.map (·.2)) = true → (p, c) ∈ D → rac D c = some p
 | [], p, c, _, h => by cases h
 | (q, x) :: D, p, c, hd, h => by
  simp only [rac]
  rcases List.mem_cons.1 h with h | h
  · cases h; rw [Nat.beq_refl]; rfl
  · have hx : x ∉ D.map (·.2) := dstN_mem (by simpa using hd)
    have hne : ¬ c = x := fun e => hx (by rw [← e]; exact List.mem_map.2 ⟨_, h, rfl⟩)
    rw [nbeq_no hne]
    exact rac_of (by simp only [List.map_cons, dstN, Bool.and_eq_true] at hd; exact hd.2) h
theorem rac_mem : ∀ {D : List (Nat × Nat)} {p c : Nat}, rac D c = some p → (p, c) ∈ D
 | [], p, c, h => by cases h
 | (q, x) :: D, p, c, h => by
  simp only [rac] at h
  by_cases e : c = x
  · subst e; rw [Nat.beq_refl] at h; cases h; simp
  · rw [nbeq_no e] at h; exact List.mem_cons_of_mem _ (rac_mem h)
def cB (D : List (Nat × Nat)) (B : Nat) (e : Env) (w : World) : Bs :=
 ⟨w, fun b => ∃ p c, asc D p = some c ∧ e.blk c = some b, fun k => e.blk (piX D B k), fun k => e.sv (piX D B k), []⟩
def cRd (D : List (Nat × Nat)) (B : Nat) (w0 : Bs) (Rd0 : Nat → Nat → Value → Prop) (e : Env) (h : Hp) (w : World) (b o : Nat) (u : Value) : Prop := RDx w0 Rd0 e h w b o u ∧ ¬ (cB D B e w).mine b
def Env.pi (D : List (Nat × Nat)) (B : Nat) (e : Env) : Env := ⟨fun k => e.blk (piX D B k), fun k => e.sv (piX D B k), fun k => e.lent (piX D B k)⟩
def Env.joinX (D : List (Nat × Nat)) (B : Nat) (e e2 : Env) : Env :=
 ⟨fun k => if inB B k then e2.blk (k - B) else e.blk k, fun k => if inB B k then e2.sv (k - B) else e.sv k,
  fun k => if inB B k then e2.lent (k - B) else match rac D k with
    | some p => e2.lent p
    | none => e.lent k⟩
def Handed (D : List (Nat × Nat)) (e : Env) (h : Hp) : Prop := ∀ p c, asc D p = some c → (∃ ob, hget h c = some ob) ∧ e.lent c = 0
section
variable {w0 : Bs} {w w' : World} {Rd0 : Nat → Nat → Value → Prop} {e e2 : Env} {h H H0 : Hp} {D : List (Nat × Nat)} {B : Nat}
theorem RDx.enterX (hp : Handed D e h) {b o : Nat} {u : Value} (hr : RDx w0 Rd0 e h w b o u) (hm : ∀ p ob, hget H0 p = some ob → ∃ c, asc D p = some c ∧ ∃ ob', hget h c = some ob') :
 RDx (cB D B e w) (cRd D B w0 Rd0 e h w) (e.pi D B) H0 w b o u := by
 have hr' := hr
 obtain ⟨h1, h2, h3⟩ := hr'
 refine ⟨h1, fun hn => ⟨hr, hn⟩, fun p ob hpo hb => ?_⟩
 obtain ⟨c, hc, ob', ho'⟩ := hm p ob hpo
 have e1 : piX D B p = c := by simp [piX, hc]
 simp only [Env.pi, e1] at hb ⊢
 exact h3 c ob' ho' hb
theorem SR.globX (hs : SR w0 Rd0 e h w) (hp : Handed D e h) {b o : Nat} {u : Value} (hg : GT b o u) : ¬ (cB D B e w).mine b := by
 have hr := hs.glob hg
 have h2 := (hs.good.1 b o u (hs.good.2 _ _ _ hg)).2
 rintro (hm | ⟨p, c, hc, hb⟩)
 · have := World.block_lt_of_cell? w _ hr.1
   simp only [cB] at hm
   simp only at this
   omega
 · obtain ⟨⟨ob, ho⟩, _⟩ := hp p c hc
   exact h2 (hs.base c ob b ho hb).1
theorem SR.enterX (hs : SR w0 Rd0 e h w) (hp : Handed D e h) (hD : okD B D = true)
 (hm : ∀ p ob, hget H0 p = some ob → ∃ c ob', asc D p = some c ∧ hget h c = some ob' ∧ ∀ Rd, OR Rd e w c ob' → OR Rd e w c (ob.ren (piX D B))) :
 SR (cB D B e w) (cRd D B w0 Rd0 e h w) (e.pi D B) H0 w := by
 have hm' : ∀ p ob, hget H0 p = some ob → ∃ c, asc D p = some c ∧ ∃ ob', hget h c = some ob' := fun p ob hpo => by
  obtain ⟨c, ob', a, b, _⟩ := hm p ob hpo
  exact ⟨c, a, ob', b⟩
 have hpi : ∀ {p c}, asc D p = some c → piX D B p = c := fun {p c} hc => by simp [piX, hc]
 refine ⟨⟨rfl, rfl, rfl, Nat.le_refl _, fun _ _ => rfl⟩, ⟨fun b o u hr => ⟨hr.1.1, hr.2⟩, fun b o u hg => ⟨hs.glob hg, hs.globX hp hg⟩⟩, fun p ob hpo => ?_, fun p ob b hpo hb => ?_, fun p p' ob ob' b hpo hpo' hb hb' => ?_, fun k _ => ⟨rfl, rfl⟩⟩
 · obtain ⟨c, ob', hc, ho', himp⟩ := hm p ob hpo
   have h1 := himp _ (hs.ob c ob' ho')
   have e1 := hpi hc
   rw [← e1] at h1
   exact (OR.unren (piX D B) h1 (e' := e.pi D B) (fun _ => rfl) (fun _ => rfl) rfl).mono fun b o u hr => hr.enterX hp hm'
 · obtain ⟨c, ob', hc, ho', _⟩ := hm p ob hpo
   simp only [Env.pi, hpi hc] at hb
   exact ⟨.inr ⟨p, c, hc, hb⟩, (hs.base c ob' b ho' hb).2⟩
 · obtain ⟨c, ob1, hc, ho1, _⟩ := hm p ob hpo
   obtain ⟨c', ob2, hc', ho2, _⟩ := hm p' ob' hpo'
   simp only [Env.pi, hpi hc] at hb
   simp only [Env.pi, hpi hc'] at hb'
   have := hs.inj _ _ _ _ _ ho1 ho2 hb hb'
   subst this
   simp only [okD, Bool.and_eq_true] at hD
   have r1 := rac_of hD.1.2 (asc_mem hc)
   have r2 := rac_of hD.1.2 (asc_mem hc')
   rw [r1] at r2
   exact Option.some.inj r2
theorem SR.joinX (hs : SR w0 Rd0 e h w) (hp : Handed D e h) (hD : okD B D = true) (hs2 : SR (cB D B e w) (cRd D B w0 Rd0 e h w) e2 H w') (hH : smallX D H = true) :
 SR w0 Rd0 (e.joinX D B e2) (hren (piX D B) H ++ (hdel D ++ hkilp (inB B) h)) w' ∧
 (∀ b o u, RDx w0 Rd0 e h w b o u → RDx w0 Rd0 (e.joinX D B e2) (hren (piX D B) H ++ (hdel D ++ hkilp (inB B) h)) w' b o u) ∧
 (∀ b o u, RDx (cB D B e w) (cRd D B w0 Rd0 e h w) e2 H w' b o u → RDx w0 Rd0 (e.joinX D B e2) (hren (piX D B) H ++ (hdel D ++ hkilp (inB B) h)) w' b o u) ∧
 (∀ k, okN D k = true → (e.joinX D B e2).blk (piX D B k) = e2.blk k ∧ (e.joinX D B e2).sv (piX D B k) = e2.sv k) := by
 have hD' := hD
 simp only [okD, Bool.and_eq_true, List.all_eq_true, Bool.not_eq_true'] at hD'
 obtain ⟨⟨⟨d1, d2⟩, d3⟩, d4⟩ := hD'
 have d4 : B + 1000 ≤ 4294967296 := Nat.le_of_ble_eq_true d4
 have dbig : ∀ p c, asc D p = some c → 4294967296 ≤ p ∧ inB B c = false := fun p c hc => by
  have := d1 _ (asc_mem hc)
  exact ⟨Nat.le_of_ble_eq_true this.1, this.2⟩
 have dinj : ∀ p p' c, asc D p = some c → asc D p' = some c → p = p' := fun p p' c h1 h2 => by
  have r1 := rac_of d3 (asc_mem h1)
  have r2 := rac_of d3 (asc_mem h2)
  rw [r1] at r2
  exact Option.some.inj r2
 have hin : ∀ k, inB B k = true ↔ B ≤ k ∧ k < B + 1000 := fun k => by simp [inB]
 have hpis : ∀ k, k < 1000 → piX D B k = B + k := fun k hk => by
  unfold piX
  cases hc : asc D k with
  | none => rfl
  | some c => have := (dbig k c hc).1; omega
 have hpic : ∀ p c, asc D p = some c → piX D B p = c := fun p c hc => by simp [piX, hc]
 have hinB : ∀ k, k < 1000 → inB B (B + k) = true := fun k hk => (hin (B + k)).2 ⟨by omega, by omega⟩
 -- the joined environment
 have hjb : ∀ k, okN D k = true → (e.joinX D B e2).blk (piX D B k) = e2.blk k := fun k hk => by
  simp only [okN, Bool.or_eq_true] at hk
  rcases hk with hk | hk
  · have hk : k < 1000 := Nat.le_of_ble_eq_true hk
    rw [hpis k hk]; simp [Env.joinX, hinB k hk]
  · obtain ⟨c, hc⟩ := Option.isSome_iff_exists.1 hk
    have := hs2.pin k (dbig k c hc).1
    rw [this.1, hpic k c hc]
    simp [Env.joinX, (dbig k c hc).2, cB, hpic k c hc]
 have hjs : ∀ k, okN D k = true → (e.joinX D B e2).sv (piX D B k) = e2.sv k := fun k hk => by
  simp only [okN, Bool.or_eq_true] at hk
  rcases hk with hk | hk
  · have hk : k < 1000 := Nat.le_of_ble_eq_true hk
    rw [hpis k hk]; simp [Env.joinX, hinB k hk]
  · obtain ⟨c, hc⟩ := Option.isSome_iff_exists.1 hk
    have := hs2.pin k (dbig k c hc).1
    rw [this.2, hpic k c hc]
    simp [Env.joinX, (dbig k c hc).2, cB, hpic k c hc]
 have hjl : ∀ k, okN D k = true → (e.joinX D B e2).lent (piX D B k) = e2.lent k := fun k hk => by
  simp only [okN, Bool.or_eq_true] at hk
  rcases hk with hk | hk
  · have hk : k < 1000 := Nat.le_of_ble_eq_true hk
    rw [hpis k hk]; simp [Env.joinX, hinB k hk]
  · obtain ⟨c, hc⟩ := Option.isSome_iff_exists.1 hk
    rw [hpic k c hc]
    simp [Env.joinX, (dbig k c hc).2, rac_of d3 (asc_mem hc)]
 have hob : ∀ k, inB B k = false → (e.joinX D B e2).blk k = e.blk k := fun k hk => by simp [Env.joinX, hk]
 have hos : ∀ k, inB B k = false → (e.joinX D B e2).sv k = e.sv k := fun k hk => by simp [Env.joinX, hk]
 have hol : ∀ k, inB B k = false → rac D k = none → (e.joinX D B e2).lent k = e.lent k := fun k hk hr => by simp [Env.joinX, hk, hr]
 have pinj : ∀ k k', okN D k = true → okN D k' = true → piX D B k = piX D B k' → k = k' := by
  intro k k' hk hk' he
  simp only [okN, Bool.or_eq_true] at hk hk'
  rcases hk with hk | hk
  · have hk : k < 1000 := Nat.le_of_ble_eq_true hk
    rw [hpis k hk] at he
    rcases hk' with hk' | hk'
    · have hk' : k' < 1000 := Nat.le_of_ble_eq_true hk'
      rw [hpis k' hk'] at he; omega
    · obtain ⟨c, hc⟩ := Option.isSome_iff_exists.1 hk'
      rw [hpic k' c hc] at he
      have := (dbig k' c hc).2
      rw [← he, hinB k hk] at this; cases this
  · obtain ⟨c, hc⟩ := Option.isSome_iff_exists.1 hk
    rw [hpic k c hc] at he
    rcases hk' with hk' | hk'
    · have hk' : k' < 1000 := Nat.le_of_ble_eq_true hk'
      rw [hpis k' hk'] at he
      have := (dbig k c hc).2
      rw [he, hinB k' hk'] at this; cases this
    · obtain ⟨c', hc'⟩ := Option.isSome_iff_exists.1 hk'
      rw [hpic k' c' hc'] at he
      subst he
      exact dinj _ _ _ hc hc'
 -- the names of the callee's heap
 have hkeys : ∀ (H : Hp), smallX D H = true → ∀ k ob, hget H k = some ob → okN D k = true ∧ obX D ob = true := by
  intro H
  induction H with
  | nil => intro _ k ob hh; simp [hget] at hh
  | cons q H ih =>
   intro hH k ob hk
   obtain ⟨i, o⟩ := q
   simp only [smallX, List.all_cons, Bool.and_eq_true] at hH
   by_cases hki : k = i
   · subst hki
     rw [hget_same] at hk
     subst hk
     exact ⟨hH.1.1, hH.1.2⟩
   · rw [hget_other hki] at hk
     exact ih (by simpa [smallX] using hH.2) k ob hk
 have hren_get : ∀ (H : Hp), smallX D H = true → ∀ k, (hren (piX D B) H).any (fun q => q.1 == k) = true → ∃ j, okN D j = true ∧ piX D B j = k ∧ hget (hren (piX D B) H) k = (hget H j).map (Ob.ren (piX D B)) := by
  intro H
  induction H with
  | nil => intro _ k ha; simp [hren] at ha
  | cons q H ih =>
   intro hH k ha
   obtain ⟨i, o⟩ := q
   simp only [smallX, List.all_cons, Bool.and_eq_true] at hH
   simp only [hren, List.any_cons, Bool.or_eq_true, beq_iff_eq] at ha
   by_cases hki : piX D B i = k
   · refine ⟨i, hH.1.1, hki, ?_⟩
     simp only [hren, hget, hki, if_true]
   · obtain ⟨j, j1, j2, j3⟩ := ih (by simpa [smallX] using hH.2) k (ha.resolve_left hki)
     refine ⟨j, j1, j2, ?_⟩
     have hji : ¬ j = i := fun e => hki (by rw [← e]; exact j2)
     have hki' : ¬ k = piX D B i := fun e => hki e.symm
     simp only [hren, hget, hki', if_false, hji, j3]
 have hdel_get : ∀ (D : List (Nat × Nat)) k, hget (hdel D) k = none := by
  intro D k
  induction D with
  | nil => rfl
  | cons q D ih =>
   simp only [hdel, List.map_cons, hget]
   split
   · rfl
   · exact ih
 have hdel_any : ∀ k, (hdel D).any (fun q => q.1 == k) = false → rac D k = none := by
  intro k hk
  cases hr : rac D k with
  | none => rfl
  | some p =>
   have := rac_mem hr
   rw [List.any_eq_false] at hk
   exact absurd (by simp) (hk (k, none) (List.mem_map.2 ⟨_, this, rfl⟩))
 -- whose is it?
 have hwho : ∀ k ob, hget (hren (piX D B) H ++ (hdel D ++ hkilp (inB B) h)) k = some ob → (∃ j ob0, okN D j = true ∧ obX D ob0 = true ∧ k = piX D B j ∧ hget H j = some ob0 ∧ ob = ob0.ren (piX D B)) ∨ (inB B k = false ∧ rac D k = none ∧ ∃ ob0, hget h k = some ob0 ∧ ob = ob0.kilp (inB B)) := by
  intro k ob hk
  rw [hget_append] at hk
  split at hk
  · rename_i ha
    obtain ⟨j, j1, j2, j3⟩ := hren_get H hH k ha
    rw [j3] at hk
    obtain ⟨ob0, h0, rfl⟩ := Option.map_eq_some_iff.1 hk
    exact .inl ⟨j, ob0, j1, (hkeys H hH j ob0 h0).2, j2.symm, h0, rfl⟩
  · rw [hget_append] at hk
    split at hk
    · rw [hdel_get] at hk; cases hk
    · rename_i _ ha
      have ha : (hdel D).any (fun q => q.1 == k) = false := (Bool.not_eq_true _).mp ha
      rw [hget_kilp] at hk
      split at hk
      · cases hk
      · rename_i hf
        obtain ⟨ob0, h0, rfl⟩ := Option.map_eq_some_iff.1 hk
        exact .inr ⟨by simpa using hf, hdel_any k ha, ob0, h0, rfl⟩
 -- what is the callee's own is the caller's own
 have hown : ∀ b, (cB D B e w).mine b → w0.mine b := by
  rintro b (hb | ⟨p, c, hc, hb⟩)
  · exact hs.ext.mine hb
  · obtain ⟨⟨ob, ho⟩, _⟩ := hp p c hc
    exact (hs.base c ob b ho hb).1
 have hrest : ∀ k ob0 b, rac D k = none → hget h k = some ob0 → e.blk k = some b → ¬ (cB D B e w).mine b := by
  rintro k ob0 b hr h0 hb (hm | ⟨p, c, hc, hbc⟩)
  · have := (hs.base k ob0 b h0 hb).2
    simp only [cB] at hm
    omega
  · obtain ⟨⟨ob, ho⟩, _⟩ := hp p c hc
    have := hs.inj _ _ _ _ _ h0 ho hb hbc
    subst this
    rw [rac_of d3 (asc_mem hc)] at hr
    cases hr
 have hfroz : ∀ b o u, RDx w0 Rd0 e h w b o u → ¬ (cB D B e w).mine b := by
  rintro b o u ⟨h1, h2, h3⟩ (hm | ⟨p, c, hc, hbc⟩)
  · have := World.block_lt_of_cell? w _ h1
    simp only [cB] at hm
    simp only at this
    omega
  · obtain ⟨⟨ob, ho⟩, hl⟩ := hp p c hc
    have := h3 c ob ho hbc
    omega
 have hR1 : ∀ b o u, RDx w0 Rd0 e h w b o u → RDx w0 Rd0 (e.joinX D B e2) (hren (piX D B) H ++ (hdel D ++ hkilp (inB B) h)) w' b o u := by
  rintro b o u hr
  have hnm := hfroz b o u hr
  have hr' := hr
  obtain ⟨h1, h2, h3⟩ := hr'
  refine ⟨by rw [World.cell?_of_block (w := w) (hs2.ext.block b hnm)]; exact h1, h2, fun k ob hk hb => ?_⟩
  rcases hwho k ob hk with ⟨j, ob0, hj, _, rfl, h0, rfl⟩ | ⟨hf, hr0, ob0, h0, rfl⟩
  · rw [hjb j hj] at hb
    exact absurd (hs2.base _ _ _ h0 hb).1 hnm
  · rw [hob k hf] at hb
    rw [hol k hf hr0]
    exact h3 k ob0 h0 hb
 have hR2 : ∀ b o u, RDx (cB D B e w) (cRd D B w0 Rd0 e h w) e2 H w' b o u → RDx w0 Rd0 (e.joinX D B e2) (hren (piX D B) H ++ (hdel D ++ hkilp (inB B) h)) w' b o u := by
  rintro b o u ⟨h1, h2, h3⟩
  refine ⟨h1, fun hlt => (h2 fun hm => hlt (hown b hm)).1.2.1 hlt, fun k ob hk hb => ?_⟩
  rcases hwho k ob hk with ⟨j, ob0, hj, _, rfl, h0, rfl⟩ | ⟨hf, hr0, ob0, h0, rfl⟩
  · rw [hjb j hj] at hb
    rw [hjl j hj]
    exact h3 j ob0 h0 hb
  · rw [hob k hf] at hb
    rw [hol k hf hr0]
    exact (h2 (hrest k ob0 b hr0 h0 hb)).1.2.2 k ob0 h0 hb
 refine ⟨⟨?_, hs.good, fun k ob hk => ?_, fun k ob b hk hb => ?_, fun k k' ob ob' b hk hk' hb hb' => ?_, fun k hk => ?_⟩, hR1, hR2, fun k hk => ⟨hjb k hk, hjs k hk⟩⟩
 · exact hs.ext.step hs2.ext.os hs2.ext.tape hs2.ext.output hs2.ext.size fun b hb _ => hs2.ext.block b fun hm => hb (hown b hm)
 · rcases hwho k ob hk with ⟨j, ob0, hj, hx, rfl, h0, rfl⟩ | ⟨hf, hr0, ob0, h0, rfl⟩
   · have ho := (hs2.ob j ob0 h0).mono hR2
     have ho2 : OR (RDx w0 Rd0 (e.joinX D B e2) (hren (piX D B) H ++ (hdel D ++ hkilp (inB B) h)) w') ⟨fun k => (e.joinX D B e2).blk (piX D B k), fun k => (e.joinX D B e2).sv (piX D B k), fun k => (e.joinX D B e2).lent (piX D B k)⟩ w' j ob0 := by
      have := ho.envp (e' := ⟨fun k => (e.joinX D B e2).blk (piX D B k), fun k => (e.joinX D B e2).sv (piX D B k), fun k => (e.joinX D B e2).lent (piX D B k)⟩) (fun k => !okN D k) (by simpa using hj)
       (fun i hi => hjb i (by simpa using hi)) (fun i hi => hjs i (by simpa using hi)) (hjl j hj)
      have he : ob0.kilp (fun k => !okN D k) = ob0 := by
       cases ob0 with
       | box t cs =>
        simp only [Ob.kilp]
        refine congrArg (Ob.box t) ?_
        rw [List.map_congr_left (g := id), List.map_id]
        intro c hc
        obtain ⟨i, hi, rfl⟩ := List.getElem_of_mem hc
        exact kilp_of_nom (nomL_get hx i _ (List.getElem?_eq_getElem hi))
       | arr => rfl
       | mp => rfl
       | nr t cs =>
        simp only [Ob.kilp]
        refine congrArg (Ob.nr t) ?_
        rw [List.map_congr_left (g := id), List.map_id]
        intro c hc
        obtain ⟨i, hi, rfl⟩ := List.getElem_of_mem hc
        exact kilp_of_nom (nomL_get hx i _ (List.getElem?_eq_getElem hi))
      rw [he] at this
      exact this
     exact ho2.ren (piX D B) (fun _ => rfl) (fun _ => rfl) (fun _ => rfl)
   · refine OR.envp (inB B) (e := e) ?_ hf hob hos (hol k hf hr0)
     have x := hs.ob k ob0 h0
     have hx : ∀ {b : Nat} {o : Obj}, e.blk k = some b → w.heap[b]? = some o → w'.heap[b]? = some o := fun {b o} hb ho => (hs2.ext.block b (hrest k ob0 b hr0 h0 hb)).trans ho
     cases ob0 with
     | box t cs =>
      obtain ⟨a0, b, us, a1, a2, a3⟩ := x
      exact ⟨a0, b, us, a1, a2.ext (fun o ho => hx a1 ho), a3.imp fun _ _ hv => hv.mono hR1⟩
     | arr t sz rows wr =>
      obtain ⟨a0, a1, a2, a3⟩ := x
      refine ⟨a0, a1, a2, ?_⟩
      rcases a3 with a3 | ⟨b, cap, cur, b1, b2, b3, b4, b5, b6, b7, b8⟩
      · exact .inl a3
      · exact .inr ⟨b, cap, cur, b1, b2, b3, b4, hx b1 b5, b6, b7.imp fun _ _ hv => hv.mono hR1, b8⟩
     | mp d es =>
      obtain ⟨a0, b, arr, clock, a1, a2, a3⟩ := x
      exact ⟨a0, b, arr, clock, a1, hx a1 a2, a3.mono hR1⟩
     | nr t cs =>
      obtain ⟨a0, a3⟩ := x
      refine ⟨a0, ?_⟩
      rcases a3 with a3 | ⟨b, cap, cur, b1, b2, b3, b4, b5, b6, b7⟩
      · exact .inl a3
      · exact .inr ⟨b, cap, cur, b1, b2, b3, b4, hx b1 b5, b6, b7.imp fun _ _ hv => hv.mono hR1⟩
 · rcases hwho k ob hk with ⟨j, ob0, hj, _, rfl, h0, rfl⟩ | ⟨hf, hr0, ob0, h0, rfl⟩
   · rw [hjb j hj] at hb
     have := hs2.base _ _ _ h0 hb
     exact ⟨hown b this.1, this.2⟩
   · rw [hob k hf] at hb
     have := hs.base _ _ _ h0 hb
     exact ⟨this.1, Nat.lt_of_lt_of_le this.2 hs2.ext.size⟩
 · rcases hwho k ob hk with ⟨j, ob0, hj, _, rfl, h0, rfl⟩ | ⟨hf, hr0, ob0, h0, rfl⟩
   · rw [hjb j hj] at hb
     rcases hwho k' ob' hk' with ⟨j', ob0', hj', _, rfl, h0', rfl⟩ | ⟨hf', hr0', ob0', h0', rfl⟩
     · rw [hjb j' hj'] at hb'
       rw [hs2.inj _ _ _ _ _ h0 h0' hb hb']
     · rw [hob k' hf'] at hb'
       exact absurd (hs2.base _ _ _ h0 hb).1 (hrest k' ob0' b hr0' h0' hb')
   · rw [hob k hf] at hb
     rcases hwho k' ob' hk' with ⟨j', ob0', hj', _, rfl, h0', rfl⟩ | ⟨hf', hr0', ob0', h0', rfl⟩
     · rw [hjb j' hj'] at hb'
       exact absurd (hs2.base _ _ _ h0' hb').1 (hrest k ob0 b hr0 h0 hb)
     · rw [hob k' hf'] at hb'
       exact hs.inj _ _ _ _ _ h0 h0' hb hb'
 · have hf : inB B k = false := by
    cases hi : inB B k with
    | false => rfl
    | true => have := (hin k).1 hi; omega
   rw [hob k hf, hos k hf]
   exact hs.pin k hk
end
end
noncomputable section
open Go Go.RowKit
def fnc : Option Nat → Fence
 | none => Fence.wide
 | some l => Fence.wide.inRound l
theorem fnc_fn (r : Option Nat) (f : FuncId) : (fnc r).fn f := by cases r <;> trivial
theorem fnc_depth (r : Option Nat) : (fnc r).depth = none := by cases r <;> rfl
theorem fnc_fenced (P : Program) (r : Option Nat) : Machine.fenced P (fnc r) = Machine.fenced P Fence.wide := by cases r <;> rfl
theorem callsIn_fnc {r : Option Nat} {n : Nat} {P : Program} {f : FuncId} {args : Array Value} {w : World} {R : Ending → World → Prop} (h : Calls P f args w R) : CallsIn (fnc r) n P f args w R := by
 cases r with
 | none => exact callsIn_wide.2 h
 | some l => exact (callsIn_wide.2 h).inRound l
theorem rowsIn_fnc {r : Option Nat} {n : Nat} {P : Program} {row : String} {args : Array Value} {w : World} {R : Value → World → Prop} (h : Rows P row args w R) : RowsIn (fnc r) n P row args w R := fun c cs _ => by
 obtain ⟨v, w', hr, s⟩ := h c cs
 refine ⟨v, w', hr, ?_⟩
 rw [fnc_fenced]
 exact stepsIn_wide.2 s
def dstsL : List Oper → List Nat
 | [] => []
 | o :: l => match o.dst with
  | some d => d :: dstsL l
  | none => dstsL l
theorem dstsL_mem {o : Oper} {d : Nat} (hd : o.dst = some d) : ∀ {l : List Oper}, o ∈ l → d ∈ dstsL l := by
 intro l
 induction l with
 | nil => intro h; cases h
 | cons o' l ih =>
  intro h
  unfold dstsL
  rcases List.mem_cons.1 h with h | h
  · subst h
    rw [hd]
    exact List.mem_cons_self
  · have := ih h
    split
    · exact List.mem_cons_of_mem _ this
    · exact this
def wrL : Code → List Nat
 | .region _ ops _ => dstsL ops.toList
 | .seq a b => wrL a ++ wrL b
 | .cond _ a b => wrL a ++ wrL b
 | .block _ a => wrL a
 | .loop a => wrL a
 | .scope a => wrL a
 | _ => []
def Kp (l : List Nat) (a a' : Act) : Prop := ∀ i, i ∉ l → a'.tmps[i]? = a.tmps[i]?
theorem Kp.refl (l : List Nat) (a : Act) : Kp l a a := fun _ _ => rfl
theorem Kp.trans {l : List Nat} {a b c : Act} (h : Kp l a b) (k : Kp l b c) : Kp l a c := fun i hi => (k i hi).trans (h i hi)
theorem Kp.mono {l m : List Nat} {a b : Act} (h : Kp l a b) (hs : ∀ i, i ∈ l → i ∈ m) : Kp m a b := fun i hi => h i fun hh => hi (hs i hh)
theorem Kp.left {l m : List Nat} {a b : Act} (h : Kp l a b) : Kp (l ++ m) a b := h.mono fun i hi => List.mem_append_left _ hi
theorem Kp.right {l m : List Nat} {a b : Act} (h : Kp m a b) : Kp (l ++ m) a b := h.mono fun i hi => List.mem_append_right _ hi
theorem Kp.put {l : List Nat} {a : Act} {d : Option Nat} {v : Value} (h : ∀ x, d = some x → x ∈ l) : Kp l a (a.put d v) := fun i hi => by
 cases d with
 | none => rfl
 | some x =>
  have hx : x ≠ i := fun e => hi (e ▸ h x rfl)
  simp only [Act.put]
  rw [Array.getElem?_setIfInBounds_ne hx]
theorem put_def (a : Act) (d : Option Nat) (v : Value) : (a.put d v).defers = a.defers := by cases d <;> rfl
section
variable {P : Program} {b : Frame} {a : Act} {k : List Item} {cs : List Frame} {w : World} {Q : Exit → Act → World → Prop} {F : Fence} {n : Nat}
theorem stepR_scope {c : Code} : step P (lone (b.atR a (.code (.scope c) :: k)) cs w) = .next (lone (b.atR a (.code c :: .inScope c :: k)) cs w) :=
 step_lone_go (by simp [stepG, stepG.exec, Frame.atR])
theorem stepR_inScope {c : Code} : step P (lone (b.atR a (.inScope c :: k)) cs w) = .next (lone (b.atR a k) cs w) :=
 step_lone_go (by simp [stepG, stepG.exec, Frame.atR])
theorem wpIn_scope_straight {c : Code} (h : c.wpIn F n P (Exit.noGoto Q) a w) : (Code.scope c).wpIn F n P Q a w := by
 intro b k cs hro hb hr
 obtain ⟨e, a₁, w₁, hq, harr⟩ := h b (.inScope c :: k) cs hro hb hr
 have h1 : StepsIn (Machine.fenced P F) P (lone (b.atR a (.code (.scope c) :: k)) cs w) (lone (b.atR a (.code c :: .inScope c :: k)) cs w) := .one (fenced_calm hb hr rfl) stepR_scope
 cases e with
 | normal => exact ⟨.normal, a₁, w₁, hq, .of_steps h1 (StepsIn.trans harr (.one (fenced_calm hb hr rfl) stepR_inScope))⟩
 | exit id => exact ⟨.exit id, a₁, w₁, hq, .of_steps h1 ⟨fun k' hk => harr.1 k' (by simp [exitTo, hk]), fun hrr hk => harr.2 hrr (by simp [exitTo, hk])⟩⟩
 | goto l => exact hq.elim
 | ret => exact ⟨_, a₁, w₁, hq, .of_steps h1 harr⟩
 | panic ch => exact ⟨_, a₁, w₁, hq, .of_steps h1 harr⟩
 | outgrown => exact ⟨_, a₁, w₁, hq, .of_steps h1 harr⟩
end
section
variable {P : Program} {ops : Array Oper} {r : Option Nat}
theorem upon_len {o : Oper} {a : Act} {next : Act → World → Prop} {Q : Exit → Act → World → Prop} {m : Nat} (hn : ∀ a' w', next a' w' → a'.defers.length ≤ m) (hQ : ∀ x a' w', Q x a' w' → x = .normal) {res : Result Next} (h : o.upon P a next Q res) : a.defers.length ≤ m := by
 unfold Oper.upon at h
 split at h
 · have := hn _ _ h; rwa [put_def] at this
 · have := hn _ _ h; rwa [put_def] at this
 · have := hn _ _ h; rw [put_def] at this; simp at this; omega
 · obtain ⟨e, w'', fr, hR, _⟩ := h []
   cases e with
   | returned v => have := hn _ _ hR; rwa [put_def] at this
   | panicked ch => cases hQ _ _ _ hR
   | outgrown => obtain ⟨a', w', hq⟩ := hR; cases hQ _ _ _ hq
 · obtain ⟨v, w'', hR, _⟩ := h default []
   have := hn _ _ hR; rwa [put_def] at this
 · cases hQ _ _ _ h
 · cases h
theorem not_out {Q : Exit → Act → World → Prop} (hQ : ∀ x a' w', Q x a' w' → x = .normal) : ¬ LetsOut Q := fun ⟨a, w, h⟩ => by cases hQ _ _ _ h
theorem wp_in {o : Oper} {a : Act} {w : World} {next : Act → World → Prop} {Q : Exit → Act → World → Prop} (hn : ∀ a' w', next a' w' → a'.defers.length ≤ a.defers.length) (hQ : ∀ x a' w', Q x a' w' → x = .normal) (h : o.wp P a w next Q) :
 o.wpIn (fnc r) 0 P a w next Q := by
 refine ⟨fun f _ => fnc_fn r f, ?_⟩
 unfold Oper.wp at h
 have hsem : o.semAt (fnc r).round a.eval = execOp a.eval o := by
  refine Oper.semAt_eq _ _ _ fun c hc => ?_
  have hx : (execOp a.eval o).run P w = ((resolve a.eval c o.type).run P w).andThen fun d w' => .ok (.defer d) w' := by
   unfold execOp
   rw [hc]
   simp only [Sem.run_bind, Sem.run_pure]
  rw [hx] at h
  cases hr : (resolve a.eval c o.type).run P w with
  | ok d w' =>
   rw [hr] at h
   have := hn _ _ h
   rw [put_def] at this
   simp at this
   omega
  | halt x w' =>
   rw [hr] at h
   cases x <;> first | exact h.elim | (cases hQ _ _ _ h)
 rw [hsem]
 generalize (execOp a.eval o).run P w = res at h
 unfold Oper.upon at h
 unfold Oper.uponIn
 split at h
 · exact h
 · exact h
 · exact h
 · exact ⟨fun hd => by (rw [fnc_depth] at hd; cases hd), callsIn_fnc h⟩
 · exact ⟨fun hd => by (rw [fnc_depth] at hd; cases hd), rowsIn_fnc h⟩
 · exact h
 · exact h.elim
theorem wpList_len {Q : Exit → Act → World → Prop} {m : Nat} (hQ : ∀ x a' w', Q x a' w' → x = .normal ∧ a'.defers.length ≤ m) : ∀ (l : List Oper) (a : Act) (w : World), wpList P ops Q l a w → a.defers.length ≤ m
 | [], a, w, h => (hQ _ _ _ h).2
 | o :: l, a, w, h => by
  unfold wpList at h
  split at h
  · rcases h with h | ⟨_, h⟩
    · exact upon_len (wpList_len hQ l) (fun x a' w' hh => (hQ x a' w' hh).1) h
    · exact absurd h (not_out fun x a' w' hh => (hQ x a' w' hh).1)
  · have := wpList_len hQ l _ _ h
    rwa [put_def] at this
theorem wpIn_keep {F : Fence} {n : Nat} {o : Oper} {a : Act} {w : World} {next next' : Act → World → Prop} {Q Q' : Exit → Act → World → Prop} (hQ : ∀ x a' w', Q x a' w' → x = .normal) (h : o.wpIn F n P a w next Q)
 (hn : ∀ (a1 : Act) (v : Value) (w' : World), a1.tmps = a.tmps → a.defers.length ≤ a1.defers.length → next (a1.put o.dst v) w' → next' (a1.put o.dst v) w') : o.wpIn F n P a w next' Q' := by
 refine ⟨h.1, ?_⟩
 have h := h.2
 generalize (o.semAt F.round a.eval).run P w = res at h
 unfold Oper.uponIn at h ⊢
 split at h
 · exact hn _ _ _ rfl (Nat.le_refl _) h
 · exact hn _ _ _ rfl (Nat.le_refl _) h
 · exact hn { a with defers := _ :: a.defers } _ _ rfl (by simp) h
 · exact ⟨h.1, h.2.mono fun e w'' he => by
    cases e with
    | returned v => exact hn _ _ _ rfl (Nat.le_refl _) he
    | panicked ch => cases hQ _ _ _ he
    | outgrown => obtain ⟨a', w', hq⟩ := he; cases hQ _ _ _ hq⟩
 · exact ⟨h.1, h.2.mono fun v w'' he => hn _ _ _ rfl (Nat.le_refl _) he⟩
 · exact ⟨h.1, h.2.mono fun e w'' he => by
    cases e with
    | returned v => exact hn _ _ _ rfl (Nat.le_refl _) he
    | panicked ch => cases hQ _ _ _ he
    | outgrown => obtain ⟨a', w', hq⟩ := he; cases hQ _ _ _ hq⟩
 · cases hQ _ _ _ h
 · exact h.elim
theorem wp_in_keep {o : Oper} {a a0 : Act} {w : World} {next next' : Act → World → Prop} {Q Q' : Exit → Act → World → Prop} {m : Nat} {l0 : List Nat} (hQ : ∀ x a' w', Q x a' w' → x = .normal) (hlen : ∀ a' w', next a' w' → a'.defers.length ≤ m) (hd : ∀ d, o.dst = some d → d ∈ l0)
 (hm : m ≤ a.defers.length) (hk : Kp l0 a0 a) (h : o.wp P a w next Q) (hn : ∀ a' w', next a' w' → m ≤ a'.defers.length → Kp l0 a0 a' → next' a' w') : o.wpIn (fnc r) 0 P a w next' Q' := by
 have h1 := wp_in (r := r) (fun a' w' hh => Nat.le_trans (hlen a' w' hh) hm) hQ h
 refine wpIn_keep hQ h1 fun a1 v w' ht hl hh => hn _ _ hh ?_ ?_
 · rw [put_def]; omega
 · intro i hi
   rw [Kp.put (a := a1) (v := v) hd i hi, ht]
   exact hk i hi
theorem wpIn_weak {F : Fence} {n : Nat} {o : Oper} {a : Act} {w : World} {next next' : Act → World → Prop} {Q Q' : Exit → Act → World → Prop} (hq : ∀ x a w, Q x a w → Q' x a w) (hn : ∀ a w, next a w → next' a w) (h : o.wpIn F n P a w next Q) : o.wpIn F n P a w next' Q' := by
 refine ⟨h.1, ?_⟩
 have h := h.2
 generalize (o.semAt F.round a.eval).run P w = res at h
 unfold Oper.uponIn at h ⊢
 split at h
 · exact hn _ _ h
 · exact hn _ _ h
 · exact hn _ _ h
 · exact ⟨h.1, h.2.mono fun e w'' he => by
    cases e with
    | returned v => exact hn _ _ he
    | panicked ch => exact hq _ _ _ he
    | outgrown => obtain ⟨a', w', hh⟩ := he; exact ⟨a', w', hq _ _ _ hh⟩⟩
 · exact ⟨h.1, h.2.mono fun v w'' he => hn _ _ he⟩
 · exact ⟨h.1, h.2.mono fun e w'' he => by
    cases e with
    | returned v => exact hn _ _ he
    | panicked ch => exact hq _ _ _ he
    | outgrown => obtain ⟨a', w', hh⟩ := he; exact ⟨a', w', hq _ _ _ hh⟩⟩
 · exact hq _ _ _ h
 · exact h.elim
theorem wpList_in {Q : Exit → Act → World → Prop} {m : Nat} (hQ : ∀ x a' w', Q x a' w' → x = .normal ∧ a'.defers.length ≤ m) {l0 : List Nat} {a0 : Act} : ∀ (l : List Oper) (a : Act) (w : World), (∀ o ∈ l, ∀ d, o.dst = some d → d ∈ l0) → m ≤ a.defers.length → Kp l0 a0 a → wpList P ops Q l a w →
 wpListIn (fnc r) 0 P ops (fun x a' w' => Q x a' w' ∧ Kp l0 a0 a') l a w
 | [], a, w, _, _, hk, h => ⟨h, hk⟩
 | o :: l, a, w, hd, hm, hk, h => by
  unfold wpList at h
  unfold wpListIn
  have hdo : ∀ x, o.dst = some x → x ∈ l0 := fun x hx => hd o (by simp) x hx
  split at h
  · rename_i hw
    rw [if_pos hw]
    rcases h with h | ⟨_, h⟩
    · exact wp_in_keep (fun x a' w' hh => (hQ x a' w' hh).1) (wpList_len hQ l) hdo hm hk h fun a' w' hh hm' hk' => wpList_in hQ l a' w' (fun o' ho' => hd o' (by simp [ho'])) hm' hk' hh
    · exact absurd h (not_out fun x a' w' hh => (hQ x a' w' hh).1)
  · rename_i hw
    rw [if_neg hw]
    exact ⟨fun f _ => fnc_fn r f, wpList_in hQ l _ w (fun o' ho' => hd o' (by simp [ho'])) (by rw [put_def]; exact hm) (hk.trans (Kp.put hdo)) h⟩
theorem wpListIn_weak {F : Fence} {n : Nat} {Q Q' : Exit → Act → World → Prop} (hq : ∀ x a w, Q x a w → Q' x a w) : ∀ (l : List Oper) (a : Act) (w : World), wpListIn F n P ops Q l a w → wpListIn F n P ops Q' l a w
 | [], a, w, h => hq _ _ _ h
 | o :: l, a, w, h => by
  unfold wpListIn at h ⊢
  split at h
  · rename_i hw
    rw [if_pos hw]
    exact wpIn_weak hq (fun a w hh => wpListIn_weak hq l a w hh) h
  · rename_i hw
    rw [if_neg hw]
    exact ⟨h.1, wpListIn_weak hq l _ _ h.2⟩
theorem wpAnyIn_weak {F : Fence} {n : Nat} {md : Region.Mode} {Q Q' : Exit → Act → World → Prop} (hq : ∀ x a w, Q x a w → Q' x a w) : ∀ (fuel : Nat) (listed : Array Bool) (a : Act) (w : World), wpAnyIn F n P md ops Q fuel listed a w → wpAnyIn F n P md ops Q' fuel listed a w
 | 0, _, a, w, h => ⟨h.1, hq _ _ _ h.2⟩
 | fuel + 1, listed, a, w, h => by
  refine ⟨fun hr => hq _ _ _ (h.1 hr), fun i hi => ?_⟩
  have h2 := h.2 i hi
  unfold wpOpIn at h2 ⊢
  split
  · rename_i ho
    rw [ho] at h2
    exact wpAnyIn_weak hq fuel _ a w h2
  · rename_i o ho
    rw [ho] at h2
    simp only at h2
    split at h2
    · rename_i hw
      rw [if_pos hw]
      exact wpIn_weak hq (fun a w hh => wpAnyIn_weak hq fuel _ a w hh) h2
    · rename_i hw
      rw [if_neg hw]
      exact ⟨h2.1, wpAnyIn_weak hq fuel _ _ _ h2.2⟩
theorem wpAny_len {md : Region.Mode} {Q : Exit → Act → World → Prop} {m : Nat} (hQ : ∀ x a' w', Q x a' w' → x = .normal ∧ a'.defers.length ≤ m) : ∀ (fuel : Nat) (listed : Array Bool) (a : Act) (w : World), wpAny P md ops Q fuel listed a w → a.defers.length ≤ m
 | 0, _, a, w, h => (hQ _ _ _ h.2).2
 | fuel + 1, listed, a, w, h => by
  obtain ⟨h0, h1⟩ := h
  cases hr : Region.ready md ops listed with
  | nil => exact (hQ _ _ _ (h0 hr)).2
  | cons i rest =>
   have h2 := h1 i (by rw [hr]; simp)
   unfold wpOp at h2
   split at h2
   · exact wpAny_len hQ fuel _ _ _ h2
   · split at h2
     · rcases h2 with h2 | ⟨_, h2⟩
       · exact upon_len (wpAny_len hQ fuel _) (fun x a' w' hh => (hQ x a' w' hh).1) h2
       · exact absurd h2 (not_out fun x a' w' hh => (hQ x a' w' hh).1)
     · have := wpAny_len hQ fuel _ _ _ h2
       rwa [put_def] at this
theorem wpAny_in {md : Region.Mode} {Q : Exit → Act → World → Prop} {m : Nat} (hQ : ∀ x a' w', Q x a' w' → x = .normal ∧ a'.defers.length ≤ m) {l0 : List Nat} {a0 : Act} (hd : ∀ (i : Nat) o, ops[i]? = some o → ∀ d, o.dst = some d → d ∈ l0) : ∀ (fuel : Nat) (listed : Array Bool) (a : Act) (w : World), m ≤ a.defers.length → Kp l0 a0 a → wpAny P md ops Q fuel listed a w →
 wpAnyIn (fnc r) 0 P md ops (fun x a' w' => Q x a' w' ∧ Kp l0 a0 a') fuel listed a w
 | 0, _, a, w, _, hk, h => ⟨h.1, h.2, hk⟩
 | fuel + 1, listed, a, w, hm, hk, h => by
  obtain ⟨h0, h1⟩ := h
  refine ⟨fun hr => ⟨h0 hr, hk⟩, fun i hi => ?_⟩
  have h2 := h1 i hi
  unfold wpOp at h2
  unfold wpOpIn
  split at h2
  · rename_i ho
    rw [ho]
    exact wpAny_in hQ hd fuel _ a w hm hk h2
  · rename_i o ho
    rw [ho]
    simp only
    split at h2
    · rename_i hw
      rw [if_pos hw]
      rcases h2 with h2 | ⟨_, h2⟩
      · exact wp_in_keep (fun x a' w' hh => (hQ x a' w' hh).1) (wpAny_len hQ fuel _) (hd i o ho) hm hk h2 fun a' w' hh hm' hk' => wpAny_in hQ hd fuel _ a' w' hm' hk' hh
      · exact absurd h2 (not_out fun x a' w' hh => (hQ x a' w' hh).1)
    · rename_i hw
      rw [if_neg hw]
      exact ⟨fun f _ => fnc_fn r f, wpAny_in hQ hd fuel _ _ w (by rw [put_def]; exact hm) (hk.trans (Kp.put (hd i o ho))) h2⟩
end
end
noncomputable section
open Go Go.RowKit
def Enters (P : Program) (f : FuncId) : Prop := ∃ fn, P.funcs[f]? = some fn ∧ (fn.name == "runtime.NumGoroutine") = false ∧ fn.body.isNone = false
def RCX (P : Program) (f : FuncId) (H0 : Hp) (aS : List AV) (H : Hp) (r : AV) : Prop :=
 Enters P f ∧ ∀ B Rd e w vs, SR B Rd e H0 w → LR (VR (RDx B Rd e H0 w) (some e)) aS vs → Calls P f vs.toArray w fun x w' => ∃ v e', x = .returned v ∧ SR B Rd e' H w' ∧ VR (RDx B Rd e' H w') (some e') r v
section
variable {P : Program} {st : St} {d : Nat} {ty : TypeId} {pos : String} {af : Array Edge} {gd : Option (Nat × Bool)} {K : St → Prop}
theorem run_callFunc {f : FuncId} (h : Enters P f) (args : Array Value) (w : World) : (callFunc f args).run P w = .ok (.enter f args) w := by
 obtain ⟨fn, h1, h2, h3⟩ := h
 have h2' : ¬ (fn.name == "runtime.NumGoroutine") = true := by rw [h2]; simp
 have h3' : ¬ fn.body.isNone = true := by rw [h3]; simp
 simp only [callFunc, Sem.run_bind]
 have : (program).run P w = .ok P w := rfl
 rw [this]
 simp only [Result.andThen_ok, h1]
 rw [if_neg h2', if_neg h3']
 rfl
mutual
def AV.pu : AV → Bool
 | .un => true
 | .v _ => true
 | .sl _ _ rows => rows.isEmpty
 | .ow _ => true
 | .pt _ _ => true
 | .pe _ _ _ _ => true
 | .sw _ _ _ _ => true
 | .fp _ => false
 | .mp _ => true
 | .ag cs => AV.puL cs
 | .tu cs => AV.puL cs
 | .cl _ fs cs => AV.puL fs && AV.puL cs
def AV.puL : List AV → Bool
 | [] => true
 | c :: cs => AV.pu c && AV.puL cs
end
theorem puL_get : ∀ {cs : List AV}, AV.puL cs = true → ∀ (j : Nat) c, cs[j]? = some c → c.pu = true
 | [], _, j, c, h => by simp at h
 | x :: cs, hm, j, c, h => by
  simp only [AV.puL, Bool.and_eq_true] at hm
  cases j with
  | zero => simp at h; exact h ▸ hm.1
  | succ j => exact puL_get hm.2 j c (by simpa using h)
theorem VR.pure {Rd Rd' : Nat → Nat → Value → Prop} {E : Option Env} {c : AV} {u : Value} (h : VR Rd E c u) (hp : c.pu = true) : VR Rd' E c u := by
 induction h with
 | un => exact .un
 | v => exact .v
 | @sl E tight sz rows a cap us hw h1c hl hc h1 h2 h3 ha ih =>
  have hr : rows = [] := by simpa [AV.pu] using hp
  subst hr
  have hu : us = [] := by simpa using hl
  subst hu
  exact .sl (rows := []) [] (by simp) (by simp) rfl (by simp) h1 h2 h3 (by simp)
 | ow => exact .ow
 | pt h => exact .pt h
 | pe h => exact .pe h
 | sw h ho h1 h2 => exact .sw h ho h1 h2
 | fp => simp [AV.pu] at hp
 | ag us hl hc ih => exact .ag us hl fun j c u h1 h2 => ih j c u h1 h2 (puL_get (by simpa [AV.pu] using hp) j c h1)
 | tu us hl hc ih => exact .tu us hl fun j c u h1 h2 => ih j c u h1 h2 (puL_get (by simpa [AV.pu] using hp) j c h1)
 | mp h => exact .mp h
 | cl us xs hl hl2 hc hc2 ih ih2 =>
  simp only [AV.pu, Bool.and_eq_true] at hp
  exact .cl us xs hl hl2 (fun j c u h1 h2 => ih j c u h1 h2 (puL_get hp.1 j c h1)) (fun j c u h1 h2 => ih2 j c u h1 h2 (puL_get hp.2 j c h1))
def obPu : Ob → Prop
 | .box _ cs => AV.puL cs = true
 | .arr _ _ rows _ => ∀ c ∈ rows.flatten, c.pu = true
 | .mp _ es => ∀ p ∈ es, p.2.pu = true
 | .nr _ cs => AV.puL cs = true
theorem OR.pure {Rd Rd' : Nat → Nat → Value → Prop} {e : Env} {w : World} {k : Nat} {ob : Ob} (h : OR Rd e w k ob) (hp : obPu ob) : OR Rd' e w k ob := by
 cases ob with
 | box t cs =>
  obtain ⟨h0, b, us, h1, h2, h3⟩ := h
  exact ⟨h0, b, us, h1, h2, h3.1, fun j c u hc hu => (h3.2 j c u hc hu).pure (puL_get hp j c hc)⟩
 | arr t sz rows wr =>
  obtain ⟨h0, h1, h2, h3⟩ := h
  refine ⟨h0, h1, h2, ?_⟩
  rcases h3 with h3 | ⟨b, cap, cur, a1, a2, a3, a4, a5, a6, a7, a8⟩
  · exact .inl h3
  · exact .inr ⟨b, cap, cur, a1, a2, a3, a4, a5, a6, ⟨a7.1, fun j c u hc hu => (a7.2 j c u hc hu).pure (hp c (List.mem_of_getElem? hc))⟩, a8⟩
 | mp d es =>
  obtain ⟨h0, b, arr, clock, h1, h2, h3⟩ := h
  exact ⟨h0, b, arr, clock, h1, h2, h3.len, fun j x m hx hm => ⟨(h3.key j x m hx hm).1, (h3.key j x m hx hm).2.pure (hp x (List.mem_of_getElem? hx))⟩, h3.isk, h3.stp, h3.brn, h3.clk⟩
 | nr t cs =>
  obtain ⟨h0, h3⟩ := h
  refine ⟨h0, ?_⟩
  rcases h3 with h3 | ⟨b, cap, cur, a1, a2, a3, a4, a5, a6, a7⟩
  · exact .inl h3
  · exact .inr ⟨b, cap, cur, a1, a2, a3, a4, a5, a6, ⟨a7.1, fun j c u hc hu => (a7.2 j c u hc hu).pure (puL_get hp j c hc)⟩⟩
def hpPu (H : Hp) : Prop := ∀ k ob, hget H k = some ob → obPu ob
theorem SR.pure {B : Bs} {Rd Rd' : Nat → Nat → Value → Prop} {e : Env} {H : Hp} {w : World} (h : SR B Rd' e H w) (hp : hpPu H) (hg : Good Rd B) : SR B Rd e H w :=
 ⟨h.ext, hg, fun k ob hk => (h.ob k ob hk).pure (hp k ob hk), h.base, h.inj, h.pin⟩
def Gives (st : St) (D : List (Nat × Nat)) (B : Nat) (h' H0 : Hp) (aS cs : List AV) : Prop :=
 ∀ w0 Rd0 e w us, SR w0 Rd0 e st.h w → LR (VR (RDx w0 Rd0 e st.h w) (some e)) cs us →
  ∃ e1, Lent w0 Rd0 e st.h w e1 h' ∧ Handed D e1 h' ∧
   (∀ p ob, hget H0 p = some ob → ∃ c ob', asc D p = some c ∧ hget h' c = some ob' ∧ ∀ Rd, OR Rd e1 w c ob' → OR Rd e1 w c (ob.ren (piX D B))) ∧
   LR (VR (RDx w0 Rd0 e1 h' w) (some e1)) (aS.map (AV.ren (piX D B))) us
def RB (D : List (Nat × Nat)) (B : Nat) (e : Env) (w : World) (b o : Nat) (u : Value) : Prop := w.cell? ⟨b, o, none⟩ = some u ∧ ¬ (cB D B e w).mine b
def GivesP (st : St) (D : List (Nat × Nat)) (B : Nat) (H0 : Hp) (aS cs : List AV) : Prop :=
 ∀ w0 Rd0 e w us, SR w0 Rd0 e st.h w → LR (VR (RDx w0 Rd0 e st.h w) (some e)) cs us →
  Handed D e st.h ∧ (∀ p ob, hget H0 p = some ob → ∃ c ob', asc D p = some c ∧ hget st.h c = some ob' ∧ OR (RB D B e w) e w c (ob.ren (piX D B))) ∧
   LR (VR (RB D B e w) (some e)) (aS.map (AV.ren (piX D B))) us
theorem Ga.args {w0 : Bs} {Rd0 : Nat → Nat → Value → Prop} {e : Env} {a : Act} {w : World} (h : Ga w0 Rd0 e st a w) (args : Array Operand) : LR (VR (RDx w0 Rd0 e st.h w) (some e)) (args.toList.map st.ev) (args.toList.map a.eval) := by
 refine ⟨by simp, fun j c u h1 h2 => ?_⟩
 rw [List.getElem?_map] at h1 h2
 obtain ⟨x, hx, rfl⟩ := Option.map_eq_some_iff.1 h1
 rw [hx] at h2
 simp at h2
 subst h2
 exact h.ev x
theorem run_callOp {f : FuncId} (he : Enters P f) {args : Array Operand} {ts : Array TypeId} {a : Act} {w : World} :
 (execOp a.eval ⟨some d, .call ⟨.value (.func f), args, ts⟩, ty, pos, af, gd⟩).run P w = .ok (.enter f (args.toList.map a.eval).toArray) w := by
 have := run_callFunc he (args.map a.eval) w
 have e1 : (args.toList.map a.eval).toArray = args.map a.eval := by rw [← Array.toList_map]
 rw [e1]
 simpa [execOp, resolve, Act.eval, Deferred.ofValue, invoke] using this
def ENT (P : Program) (o : Oper) (st : St) (f : FuncId) (avs : List AV) : Prop :=
 Enters P f → ∀ w0 Rd0 e a w, Ga w0 Rd0 e st a w → ∃ us, LR (VR (RDx w0 Rd0 e st.h w) (some e)) avs us ∧ ∀ w', (execOp a.eval o).run P w' = .ok (.enter f us.toArray) w'
theorem ENT.func {f : FuncId} {args : Array Operand} {ts : Array TypeId} : ENT P ⟨some d, .call ⟨.value (.func f), args, ts⟩, ty, pos, af, gd⟩ st f (args.toList.map st.ev) := fun he w0 Rd0 e a w h =>
 ⟨_, h.args args, fun w' => run_callOp he⟩
theorem run_callCl {x : Operand} {f : FuncId} {args : Array Operand} {ts : Array TypeId} {a : Act} {w : World} {us xs : List Value} (h : Enters P f) (hx : a.eval x = .func (.func f) us.toArray xs.toArray) :
 (execOp a.eval ⟨some d, .call ⟨.value x, args, ts⟩, ty, pos, af, gd⟩).run P w = .ok (.enter f (us ++ args.toList.map a.eval ++ xs).toArray) w := by
 have := run_callFunc h (us.toArray ++ args.map a.eval ++ xs.toArray) w
 have e1 : (us ++ args.toList.map a.eval ++ xs).toArray = us.toArray ++ args.map a.eval ++ xs.toArray := by
  rw [← Array.toList_inj]; simp
 rw [e1]
 simpa [execOp, resolve, hx, Deferred.ofValue, invoke] using this
theorem ENT.val {x : Operand} {f : FuncId} {args : Array Operand} {ts : Array TypeId} (hx : st.ev x = .v (.func (.func f) #[] #[])) : ENT P ⟨some d, .call ⟨.value x, args, ts⟩, ty, pos, af, gd⟩ st f (args.toList.map st.ev) := fun he w0 Rd0 e a w h => by
 refine ⟨_, h.args args, fun w' => ?_⟩
 have hv := h.ev x
 rw [hx] at hv
 have := run_callCl (P := P) (d := d) (ty := ty) (pos := pos) (af := af) (gd := gd) (x := x) (args := args) (ts := ts) (a := a) (w := w') (us := []) (xs := []) he hv.v_inv
 simpa using this
theorem ENT.cl {x : Operand} {f : FuncId} {args : Array Operand} {ts : Array TypeId} {fs cs : List AV} (hx : st.ev x = .cl (.func f) fs cs) : ENT P ⟨some d, .call ⟨.value x, args, ts⟩, ty, pos, af, gd⟩ st f (fs ++ args.toList.map st.ev ++ cs) := fun he w0 Rd0 e a w h => by
 have hv := h.ev x
 rw [hx] at hv
 generalize hax : a.eval x = u at hv
 cases hv with
 | cl us xs hl hl2 hc hc2 =>
  exact ⟨_, (LR.append ⟨hl, hc⟩ (h.args args)).append ⟨hl2, hc2⟩, fun w' => run_callCl he hax⟩
theorem LR.unren {Rd Rd' : Nat → Nat → Value → Prop} {e : Env} {D : List (Nat × Nat)} {B : Nat} {aS : List AV} {us : List Value} (h : LR (VR Rd (some e)) (aS.map (AV.ren (piX D B))) us) (hR : ∀ b o u, Rd b o u → Rd' b o u) : LR (VR Rd' (some (e.pi D B))) aS us :=
 ⟨by simpa using h.1, fun j c u hc hu => ((h.2 j (c.ren (piX D B)) u (by simp [hc]) hu).mono hR).unren (piX D B) (e' := e.pi D B) (fun _ => rfl) (fun _ => rfl) rfl rfl⟩
theorem Ga.back {w0 : Bs} {Rd0 : Nat → Nat → Value → Prop} {e e2 : Env} {a : Act} {w w' : World} {D : List (Nat × Nat)} {B : Nat} {H : Hp} {r : AV} {v : Value} (h1 : Ga w0 Rd0 e st a w) (hp : Handed D e st.h) (hD : okD B D = true) (hs2 : SR (cB D B e w) (cRd D B w0 Rd0 e st.h w) e2 H w')
 (hv : VR (RDx (cB D B e w) (cRd D B w0 Rd0 e st.h w) e2 H w') (some e2) r v) (hH : smallX D H = true) (hn : r.nom (fun k => !okN D k) = true) (hd : d < st.n) :
 Ga w0 Rd0 (e.joinX D B e2) ⟨st.n, (d, r.ren (piX D B)) :: tkilp (inB B) st.t, hren (piX D B) H ++ (hdel D ++ hkilp (inB B) st.h)⟩ (a.put (some d) v) w' := by
 obtain ⟨j1, j2, j3, j4⟩ := SR.joinX h1.sr hp hD hs2 hH
 refine ⟨by simpa [Act.put] using h1.n, h1.d, j1, TR.put (fun i => ?_) (by rw [h1.n.1]; exact hd) ?_⟩
 · rw [tget_kilp]
   exact ((((h1.tr i).mono j2).kilp _).envp rfl (inB B) (kilp_nom _ _) (fun j hj => by simp [Env.joinX, hj]) (fun j hj => by simp [Env.joinX, hj]))
 · exact (hv.mono j3).renp _ hn (piX D B) (fun j hj => (j4 j (by simpa using hj)).1) (fun j hj => (j4 j (by simpa using hj)).2)
theorem SS.callX {f : FuncId} {op : Op} {avs : List AV} {D : List (Nat × Nat)} {h' H0 H : Hp} {aS : List AV} {r : AV} (hr : RCX P f H0 aS H r) (hen : ENT P ⟨some d, op, ty, pos, af, gd⟩ st f avs) (hg : Gives st D (1000 * (d + 1)) h' H0 aS avs) (hD : okD (1000 * (d + 1)) D = true) (hH : smallX D H = true) (hn : r.nom (fun k => !okN D k) = true) (hd : d < st.n)
 (hK : K ⟨st.n, (d, r.ren (piX D (1000 * (d + 1)))) :: tkilp (inB (1000 * (d + 1))) st.t, hren (piX D (1000 * (d + 1))) H ++ (hdel D ++ hkilp (inB (1000 * (d + 1))) h')⟩) : SS P ⟨some d, op, ty, pos, af, gd⟩ st K := by
 intro w0 Rd0 e a w next Q h hn'
 obtain ⟨us, hus, hrun⟩ := hen hr.1 w0 Rd0 e a w h
 obtain ⟨e1, l, hp, hm, hv⟩ := hg w0 Rd0 e w _ h.sr hus
 have h1 := h.lent l
 have hs := h1.sr.enterX hp hD hm
 have hcall := hr.2 _ _ _ w us hs (hv.unren fun b o u hh => hh.enterX hp fun p ob hpo => by
  obtain ⟨c, ob', x, y, _⟩ := hm p ob hpo
  exact ⟨c, x, ob', y⟩)
 unfold Oper.wp
 rw [hrun w]
 show Calls P f _ w _
 refine hcall.mono fun x w' hx => ?_
 obtain ⟨v, e2, rfl, hs2, hv2⟩ := hx
 exact hn' _ hK _ _ _ (h1.back hp hD hs2 hv2 hH hn hd)
theorem SS.callP {f : FuncId} {op : Op} {avs : List AV} {D : List (Nat × Nat)} {H0 H : Hp} {aS : List AV} {r : AV} (hr : RCX P f H0 aS H r) (hpr : r.pu = true) (hpH : hpPu H) (hen : ENT P ⟨some d, op, ty, pos, af, gd⟩ st f avs) (hg : GivesP st D (1000 * (d + 1)) H0 aS avs) (hD : okD (1000 * (d + 1)) D = true) (hH : smallX D H = true) (hn : r.nom (fun k => !okN D k) = true) (hd : d < st.n)
 (hK : K ⟨st.n, (d, r.ren (piX D (1000 * (d + 1)))) :: tkilp (inB (1000 * (d + 1))) st.t, hren (piX D (1000 * (d + 1))) H ++ (hdel D ++ hkilp (inB (1000 * (d + 1))) st.h)⟩) : SS P ⟨some d, op, ty, pos, af, gd⟩ st K := by
 intro w0 Rd0 e a w next Q h hn'
 obtain ⟨us, hus, hrun⟩ := hen hr.1 w0 Rd0 e a w h
 obtain ⟨hp, hm, hv⟩ := hg w0 Rd0 e w _ h.sr hus
 have hgood : Good (RB D (1000 * (d + 1)) e w) (cB D (1000 * (d + 1)) e w) := ⟨fun b o u hh => hh, fun b o u hg => ⟨(h.sr.glob hg).1, h.sr.globX hp hg⟩⟩
 have hRB : ∀ b o u, RB D (1000 * (d + 1)) e w b o u → RDx (cB D (1000 * (d + 1)) e w) (RB D (1000 * (d + 1)) e w) (e.pi D (1000 * (d + 1))) H0 w b o u := fun b o u hh => ⟨hh.1, fun _ => hh, fun p ob hpo hb => by
  obtain ⟨c, ob', x, y, _⟩ := hm p ob hpo
  refine absurd (.inr ⟨p, c, x, ?_⟩) hh.2
  have e1 : piX D (1000 * (d + 1)) p = c := by simp [piX, x]
  simpa only [Env.pi, e1] using hb⟩
 have hpi : ∀ {p c}, asc D p = some c → piX D (1000 * (d + 1)) p = c := fun {p c} hc => by simp [piX, hc]
 have hs : SR (cB D (1000 * (d + 1)) e w) (RB D (1000 * (d + 1)) e w) (e.pi D (1000 * (d + 1))) H0 w := by
  refine ⟨⟨rfl, rfl, rfl, Nat.le_refl _, fun _ _ => rfl⟩, hgood, fun p ob hpo => ?_, fun p ob b hpo hb => ?_, fun p p' ob ob' b hpo hpo' hb hb' => ?_, fun k _ => ⟨rfl, rfl⟩⟩
  · obtain ⟨c, ob', hc, ho', ho⟩ := hm p ob hpo
    rw [← hpi hc] at ho
    exact (OR.unren (piX D (1000 * (d + 1))) ho (e' := e.pi D (1000 * (d + 1))) (fun _ => rfl) (fun _ => rfl) rfl).mono hRB
  · obtain ⟨c, ob', hc, ho', _⟩ := hm p ob hpo
    simp only [Env.pi, hpi hc] at hb
    exact ⟨.inr ⟨p, c, hc, hb⟩, (h.sr.base c ob' b ho' hb).2⟩
  · obtain ⟨c, ob1, hc, ho1, _⟩ := hm p ob hpo
    obtain ⟨c', ob2, hc', ho2, _⟩ := hm p' ob' hpo'
    simp only [Env.pi, hpi hc] at hb
    simp only [Env.pi, hpi hc'] at hb'
    have := h.sr.inj _ _ _ _ _ ho1 ho2 hb hb'
    subst this
    simp only [okD, Bool.and_eq_true] at hD
    have r1 := rac_of hD.1.2 (asc_mem hc)
    have r2 := rac_of hD.1.2 (asc_mem hc')
    rw [r1] at r2
    exact Option.some.inj r2
 have hcall := hr.2 _ _ _ w us hs (hv.unren hRB)
 unfold Oper.wp
 rw [hrun w]
 show Calls P f _ w _
 refine hcall.mono fun x w' hx => ?_
 obtain ⟨v, e2, rfl, hs2, hv2⟩ := hx
 exact hn' _ hK _ _ _ (h.back hp hD (hs2.pure hpH ⟨fun b o u hh => ⟨hh.1.1, hh.2⟩, fun b o u hg => ⟨h.sr.glob hg, h.sr.globX hp hg⟩⟩) (hv2.pure hpr) hH hn hd)
def GS (P : Program) (ops : Array Oper) (o : Oper) (st : St) (K : St → Prop) : Prop :=
 ∀ w0 Rd0 e a w next Q, Ga w0 Rd0 e st a w → (∀ st', K st' → ∀ e' a' w', Ga w0 Rd0 e' st' a' w' → next a' w') →
  if Region.wanted o (yielded ops a.tmps) then o.wp P a w next Q else next (a.put o.dst undef) w
theorem GS.plain {ops : Array Oper} {o : Oper} (hg : o.guard = none) (h : SS P o st K) : GS P ops o st K := by
 intro w0 Rd0 e a w next Q hga hn
 rw [if_pos (by simp [Region.wanted, hg])]
 exact h w0 Rd0 e a w next Q hga hn
theorem Ga.yielded {ops : Array Oper} {w0 : Bs} {Rd0 : Nat → Nat → Value → Prop} {e : Env} {a : Act} {w : World} (h : Ga w0 Rd0 e st a w) {j s : Nat} {b : Bool} (hj : (ops[j]?).bind (·.dst) = some s) (hs : s < st.n) (hv : tget st.t s = .v (.bool b)) : yielded ops a.tmps j = some b := by
 have := h.tr s
 rw [hv] at this
 have := this.v_inv
 have hlt : s < a.tmps.size := by rw [h.n.1]; exact hs
 have h2 : a.tmps[s]? = some (.bool b) := by
  rw [Array.getElem?_eq_getElem hlt]
  simp [Array.getD_eq_getD_getElem?, Array.getElem?_eq_getElem hlt] at this
  rw [this]
 unfold Go.yielded
 rw [hj]
 simp [h2]
theorem GS.taken {ops : Array Oper} {o : Oper} {j s : Nat} {b : Bool} (hg : o.guard = some (j, b)) (hj : (ops[j]?).bind (·.dst) = some s) (hs : s < st.n) (hv : tget st.t s = .v (.bool b)) (h : SS P o st K) : GS P ops o st K := by
 intro w0 Rd0 e a w next Q hga hn
 rw [if_pos (by simp [Region.wanted, hg, hga.yielded hj hs hv])]
 exact h w0 Rd0 e a w next Q hga hn
theorem GS.left {ops : Array Oper} {dd : Option Nat} {op : Op} {j s : Nat} {b c : Bool} (hg : gd = some (j, b)) (hj : (ops[j]?).bind (·.dst) = some s) (hs : s < st.n) (hv : tget st.t s = .v (.bool c)) (hbc : (c == b) = false) (hd : ∀ d, dd = some d → d < st.n)
 (hK : K ⟨st.n, match dd with | some d => (d, .v undef) :: st.t | none => st.t, st.h⟩) : GS P ops ⟨dd, op, ty, pos, af, gd⟩ st K := by
 intro w0 Rd0 e a w next Q hga hn
 have hw : ¬ Region.wanted (⟨dd, op, ty, pos, af, gd⟩ : Oper) (Go.yielded ops a.tmps) = true := by
  simp only [Region.wanted, hg, hga.yielded hj hs hv]
  simpa using hbc
 rw [if_neg hw]
 refine hn _ hK e _ _ ?_
 cases dd with
 | none => exact hga
 | some d => exact hga.put (hd d rfl) .v
theorem GS.leftU {ops : Array Oper} {dd : Option Nat} {op : Op} {j s : Nat} {b : Bool} (hg : gd = some (j, b)) (hj : (ops[j]?).bind (·.dst) = some s) (hs : s < st.n) (hv : tget st.t s = .v undef) (hd : ∀ d, dd = some d → d < st.n)
 (hK : K ⟨st.n, match dd with | some d => (d, .v undef) :: st.t | none => st.t, st.h⟩) : GS P ops ⟨dd, op, ty, pos, af, gd⟩ st K := by
 intro w0 Rd0 e a w next Q hga hn
 have hy : Go.yielded ops a.tmps j = none := by
  have := hga.tr s
  rw [hv] at this
  have := this.v_inv
  have hlt : s < a.tmps.size := by rw [hga.n.1]; exact hs
  have h2 : a.tmps[s]? = some undef := by
   rw [Array.getElem?_eq_getElem hlt]
   simp [Array.getD_eq_getD_getElem?, Array.getElem?_eq_getElem hlt] at this
   rw [this]
  unfold Go.yielded
  rw [hj]
  simp [h2, undef]
 have hw : ¬ Region.wanted (⟨dd, op, ty, pos, af, gd⟩ : Oper) (Go.yielded ops a.tmps) = true := by
  simp only [Region.wanted, hg, hy]
  simp
 rw [if_neg hw]
 refine hn _ hK e _ _ ?_
 cases dd with
 | none => exact hga
 | some d => exact hga.put (hd d rfl) .v
def AL (P : Program) (ops : Array Oper) (l : List Oper) (st : St) (K : St → Prop) : Prop :=
 ∀ w0 Rd0 e a w Q, Ga w0 Rd0 e st a w → (∀ st', K st' → ∀ e' a' w', Ga w0 Rd0 e' st' a' w' → Q .normal a' w') → wpList P ops Q l a w
theorem AL.nil {ops : Array Oper} (h : K st) : AL P ops [] st K := fun w0 Rd0 e a w Q hga hn => hn _ h e a w hga
theorem AL.cons {ops : Array Oper} {o : Oper} {rest : List Oper} (h : ∀ K' : St → Prop, (∀ st', AL P ops rest st' K → K' st') → GS P ops o st K') : AL P ops (o :: rest) st K := by
 intro w0 Rd0 e a w Q hga hn
 refine wpList_step fun K1 hK1 => ?_
 exact h (fun st' => AL P ops rest st' K) (fun _ h => h) w0 Rd0 e a w K1 Q hga fun st' hst' e' a' w' hga' => hK1 a' w' (hst' w0 Rd0 e' a' w' Q hga' hn)
def mark (D : Nat) : Deferred := { target := .collected D, args := #[] }
def MarksOk (B : Bs) : Prop := ∃ l : List Nat, B.df = l.map mark ∧ l.Nodup ∧ ∀ D ∈ l, ¬ B.mine D ∧ B.w.heap[D]? = some (.deferred (some []))
structure Bk (t : Bool) (w0 : Bs) (Rd0 : Nat → Nat → Value → Prop) (w1 : Bs) (Rd1 : Nat → Nat → Value → Prop) : Prop where
 sr : ∀ e h w, SR w1 Rd1 e h w → SR w0 Rd0 e h w
 rd : ∀ e h w b o u, RDx w1 Rd1 e h w b o u → RDx w0 Rd0 e h w b o u
 sz : w0.w.heap.size ≤ w1.w.heap.size
 df : MarksOk w0 → MarksOk w1 ∧ ∀ D, mark D ∈ w1.df → mark D ∈ w0.df ∨ w0.w.heap.size ≤ D
 ne : t = false → w1 = w0 ∧ Rd1 = Rd0
theorem Bk.refl {t : Bool} {w0 : Bs} {Rd0 : Nat → Nat → Value → Prop} : Bk t w0 Rd0 w0 Rd0 := ⟨fun _ _ _ h => h, fun _ _ _ _ _ _ h => h, Nat.le_refl _, fun h => ⟨h, fun _ hD => .inl hD⟩, fun _ => ⟨rfl, rfl⟩⟩
theorem Bk.trans {t : Bool} {w0 w1 w2 : Bs} {Rd0 Rd1 Rd2 : Nat → Nat → Value → Prop} (h : Bk t w0 Rd0 w1 Rd1) (k : Bk t w1 Rd1 w2 Rd2) : Bk t w0 Rd0 w2 Rd2 :=
 ⟨fun e H w hs => h.sr e H w (k.sr e H w hs), fun e H w b o u hr => h.rd e H w b o u (k.rd e H w b o u hr), Nat.le_trans h.sz k.sz, fun hm => by
  obtain ⟨m1, d1⟩ := h.df hm
  obtain ⟨m2, d2⟩ := k.df m1
  refine ⟨m2, fun D hD => ?_⟩
  rcases d2 D hD with h1 | h1
  · exact d1 D h1
  · exact .inr (Nat.le_trans h.sz h1), fun ht => by
  obtain ⟨rfl, rfl⟩ := h.ne ht
  exact k.ne ht⟩
def AC (t : Bool) (P : Program) (c : Code) (st : St) (Post : Exit → St → Prop) : Prop :=
 ∀ (r : Option Nat) w0 Rd0 e a w Q, (t = true → r = none) → Ga w0 Rd0 e st a w →
  (∀ x st', Post x st' → ∀ w1 Rd1, Bk t w0 Rd0 w1 Rd1 → ∀ e' a' w', Ga w1 Rd1 e' st' a' w' → Kp (wrL c) a a' → Q x a' w') → c.wpIn (fnc r) 0 P Q a w
variable {t : Bool} {Post : Exit → St → Prop}
def PThen (next : St → Prop) (Post : Exit → St → Prop) : Exit → St → Prop
 | .normal, st => next st
 | x, st => Post x st
def PBlock (id : Nat) (Post : Exit → St → Prop) : Exit → St → Prop
 | .exit i, st => if i = id then Post .normal st else Post (.exit i) st
 | x, st => Post x st
theorem AC.region {id : Nat} {l : List Oper} (h : AL P l.toArray l st (Post .normal)) : AC t P (.region id l.toArray false) st Post := fun r w0 Rd0 e a w Q hr hga hn => by
 refine wpIn_region_lit ?_
 have h1 := h w0 Rd0 e a w (fun x a' w' => x = .normal ∧ a'.defers.length ≤ w0.df.length ∧ ∃ st' e', Post .normal st' ∧ Ga w0 Rd0 e' st' a' w') hga fun st' hst' e' a' w' hg => ⟨rfl, by rw [hg.d]; exact Nat.le_refl _, st', e', hst', hg⟩
 have h2 := wpList_in (r := r) (m := w0.df.length) (l0 := dstsL l) (a0 := a) (fun x a' w' hh => ⟨hh.1, hh.2.1⟩) l a w (fun o ho d hd => dstsL_mem hd ho) (by rw [hga.d]; exact Nat.le_refl _) (Kp.refl _ _) h1
 refine wpListIn_weak (fun x a' w' hh => ?_) l a w h2
 obtain ⟨⟨rfl, _, st', e', hst', hg⟩, hk⟩ := hh
 exact hn .normal st' hst' w0 Rd0 Bk.refl e' a' w' hg hk
theorem AC.seq {x y : Code} (h : AC t P x st (PThen (fun st' => AC t P y st' Post) Post)) : AC t P (.seq x y) st Post := fun r w0 Rd0 e a w Q hr hga hn => by
 refine wpIn_seq (h r w0 Rd0 e a w _ hr hga fun ex st' hst' w1 Rd1 hb e' a' w' hg hk => ?_)
 cases ex with
 | normal => exact hst' r w1 Rd1 e' a' w' Q hr hg fun x2 st2 h2 w2 Rd2 hb2 e2 a2 w2' hg2 hk2 => hn x2 st2 h2 w2 Rd2 (hb.trans hb2) e2 a2 w2' hg2 (hk.left.trans hk2.right)
 | exit id => exact hn _ st' hst' w1 Rd1 hb e' a' w' hg hk.left
 | goto l => exact hn _ st' hst' w1 Rd1 hb e' a' w' hg hk.left
 | ret => exact hn _ st' hst' w1 Rd1 hb e' a' w' hg hk.left
 | panic ch => exact hn _ st' hst' w1 Rd1 hb e' a' w' hg hk.left
 | outgrown => exact hn _ st' hst' w1 Rd1 hb e' a' w' hg hk.left
theorem AC.condT {c : Operand} {x y : Code} (hc : st.ev c = .v (.bool true)) (h : AC t P x st Post) : AC t P (.cond c x y) st Post := fun r w0 Rd0 e a w Q hr hga hn => by
 have hv := hga.ev c
 rw [hc] at hv
 exact wpIn_cond_true hv.v_inv (h r w0 Rd0 e a w Q hr hga fun x st' hst' w1 Rd1 hb e' a' w' hg hk => hn x st' hst' w1 Rd1 hb e' a' w' hg hk.left)
theorem AC.condF {c : Operand} {x y : Code} (hc : st.ev c = .v (.bool false)) (h : AC t P y st Post) : AC t P (.cond c x y) st Post := fun r w0 Rd0 e a w Q hr hga hn => by
 have hv := hga.ev c
 rw [hc] at hv
 exact wpIn_cond_false hv.v_inv (h r w0 Rd0 e a w Q hr hga fun x st' hst' w1 Rd1 hb e' a' w' hg hk => hn x st' hst' w1 Rd1 hb e' a' w' hg hk.right)
theorem AC.block {id : Nat} {c : Code} (h : AC t P c st (PBlock id Post)) : AC t P (.block id c) st Post := fun r w0 Rd0 e a w Q hr hga hn => by
 refine wpIn_block (h r w0 Rd0 e a w _ hr hga fun ex st' hst' w1 Rd1 hb e' a' w' hg hk => ?_)
 cases ex with
 | normal => exact hn _ st' hst' w1 Rd1 hb e' a' w' hg hk
 | exit id' =>
  simp only [PBlock] at hst'
  simp only [Exit.inBlock]
  split at hst'
  · rename_i hid; rw [if_pos hid]; exact hn _ st' hst' w1 Rd1 hb e' a' w' hg hk
  · rename_i hid; rw [if_neg hid]; exact hn _ st' hst' w1 Rd1 hb e' a' w' hg hk
 | goto l => exact hn _ st' hst' w1 Rd1 hb e' a' w' hg hk
 | ret => exact hn _ st' hst' w1 Rd1 hb e' a' w' hg hk
 | panic ch => exact hn _ st' hst' w1 Rd1 hb e' a' w' hg hk
 | outgrown => exact hn _ st' hst' w1 Rd1 hb e' a' w' hg hk
theorem AC.scope {c : Code} (h : AC t P c st fun x s => (∀ l, x ≠ .goto l) ∧ Post x s) : AC t P (.scope c) st Post := fun r w0 Rd0 e a w Q hr hga hn =>
 wpIn_scope_straight (h r w0 Rd0 e a w _ hr hga fun ex st' hst' w1 Rd1 hb e' a' w' hg hk => by
  cases ex with
  | goto l => exact absurd rfl (hst'.1 l)
  | normal => exact hn _ st' hst'.2 w1 Rd1 hb e' a' w' hg hk
  | exit id => exact hn _ st' hst'.2 w1 Rd1 hb e' a' w' hg hk
  | ret => exact hn _ st' hst'.2 w1 Rd1 hb e' a' w' hg hk
  | panic ch => exact hn _ st' hst'.2 w1 Rd1 hb e' a' w' hg hk
  | outgrown => exact hn _ st' hst'.2 w1 Rd1 hb e' a' w' hg hk)
theorem AC.skip (h : Post .normal st) : AC t P .skip st Post := fun r w0 Rd0 e a w Q hr hga hn => wpIn_skip (hn _ st h _ _ Bk.refl e a w hga (Kp.refl _ _))
theorem AC.label {l : Nat} (h : Post .normal st) : AC t P (.label l) st Post := fun r w0 Rd0 e a w Q hr hga hn => wpIn_label (hn _ st h _ _ Bk.refl e a w hga (Kp.refl _ _))
theorem AC.exit {id : Nat} (h : Post (.exit id) st) : AC t P (.exit id) st Post := fun r w0 Rd0 e a w Q hr hga hn => wpIn_exit (hn _ st h _ _ Bk.refl e a w hga (Kp.refl _ _))
theorem AC.ret (h : Post .ret st) : AC t P .ret st Post := fun r w0 Rd0 e a w Q hr hga hn => wpIn_ret (hn _ st h _ _ Bk.refl e a w hga (Kp.refl _ _))
def SLe (P : Program) (st st2 : St) : Prop := ∀ w0 Rd0 e a w, Ga w0 Rd0 e st a w → ∃ e', Ga w0 Rd0 e' st2 a w
theorem SLe.refl {P : Program} {st : St} : SLe P st st := fun _ _ e _ _ h => ⟨e, h⟩
theorem SLe.trans {P : Program} {s1 s2 s3 : St} (h : SLe P s1 s2) (k : SLe P s2 s3) : SLe P s1 s3 := fun w0 Rd0 e a w hg => let ⟨e', hg'⟩ := h w0 Rd0 e a w hg; k w0 Rd0 e' a w hg'
theorem AC.le {c : Code} {st2 : St} (hs : SLe P st st2) (h : AC t P c st2 Post) : AC t P c st Post := fun r w0 Rd0 e a w Q hr hga hn => let ⟨e', hg⟩ := hs w0 Rd0 e a w hga; h r w0 Rd0 e' a w Q hr hg hn
theorem GS.le {ops : Array Oper} {o : Oper} {st2 : St} (hs : SLe P st st2) (h : GS P ops o st2 K) : GS P ops o st K := fun w0 Rd0 e a w next Q hga hn => let ⟨e', hg⟩ := hs w0 Rd0 e a w hga; h w0 Rd0 e' a w next Q hg hn
theorem AC.mono {c : Code} {Post' : Exit → St → Prop} (h : AC t P c st Post) (hp : ∀ x st', Post x st' → Post' x st') : AC t P c st Post' := fun r w0 Rd0 e a w Q hr hga hn => h r w0 Rd0 e a w Q hr hga fun x st' hst' => hn x st' (hp x st' hst')
theorem AC.loop {c : Code} {α : Type} (I : α → St) (μ : α → Nat) (x0 : α) (h0 : SLe P st (I x0))
 (round : ∀ x, AC t P c (I x) (PThen (fun st' => ∃ x', SLe P st' (I x') ∧ μ x' < μ x) Post)) : AC t P (.loop c) st Post := by
 intro r w0 Rd0 e a w Q hr hga hn
 obtain ⟨e0, hg0⟩ := h0 w0 Rd0 e a w hga
 have key : ∀ n x, μ x < n → ∀ w1 Rd1, Bk t w0 Rd0 w1 Rd1 → ∀ e' a' w', Ga w1 Rd1 e' (I x) a' w' → Kp (wrL c) a a' → Code.roundsIn (fnc r) 0 P c Q n a' w' := by
  intro n
  induction n with
  | zero => intro x hx; omega
  | succ n ih =>
   intro x hx w1 Rd1 hb e1 a1 w1' hg hk
   refine round x r w1 Rd1 e1 a1 w1' (Exit.then (Code.roundsIn (fnc r) 0 P c Q n) Q) hr hg fun ex st' hst' w2 Rd2 hb2 e2 a2 w2' hg2 hk2 => ?_
   cases ex with
   | normal =>
    obtain ⟨x', hle, hlt⟩ := hst'
    obtain ⟨e3, hg3⟩ := hle w2 Rd2 e2 a2 w2' hg2
    exact ih x' (by omega) w2 Rd2 (hb.trans hb2) e3 a2 w2' hg3 (hk.trans hk2)
   | exit id => exact hn _ st' hst' w2 Rd2 (hb.trans hb2) e2 a2 w2' hg2 (hk.trans hk2)
   | goto l => exact hn _ st' hst' w2 Rd2 (hb.trans hb2) e2 a2 w2' hg2 (hk.trans hk2)
   | ret => exact hn _ st' hst' w2 Rd2 (hb.trans hb2) e2 a2 w2' hg2 (hk.trans hk2)
   | panic ch => exact hn _ st' hst' w2 Rd2 (hb.trans hb2) e2 a2 w2' hg2 (hk.trans hk2)
   | outgrown => exact hn _ st' hst' w2 Rd2 (hb.trans hb2) e2 a2 w2' hg2 (hk.trans hk2)
 exact wpIn_loop_rounds _ (key _ x0 (Nat.lt_succ_self _) w0 Rd0 Bk.refl e0 a w hg0 (Kp.refl _ _))
end
end
noncomputable section
open Go Go.RowKit
theorem cellsOf_none {Rd : Nat → Nat → Value → Prop} {c : AV} {cs : List AV} {u : Value} (hc : cellsOf c = some cs) (hv : VR Rd none c u) : ∃ us, u.cells = us.toArray ∧ LR (VR Rd none) cs us := by
 cases c with
 | ag cs' =>
  simp only [cellsOf, Option.some.injEq] at hc
  subst hc
  obtain ⟨us, rfl, hlr⟩ := hv.ag_inv
  exact ⟨us, rfl, hlr⟩
 | _ =>
  simp only [cellsOf] at hc
  split at hc
  · rename_i h1
    simp only [Option.some.injEq] at hc
    subst hc
    have := hv.oneCell h1 (fun e' k he hk => by cases he)
    exact ⟨[u], by rw [oneCell_cells this], LR.cons hv LR.nil⟩
  · cases hc
def chunk (sz : Nat) : Nat → List AV → List (List AV)
 | 0, _ => []
 | n + 1, cs => cs.take sz :: chunk sz n (cs.drop sz)
theorem chunk_ok (sz : Nat) : ∀ (n : Nat) (cs : List AV), cs.length = n * sz → (chunk sz n cs).flatten = cs ∧ (chunk sz n cs).length = n ∧ ∀ r ∈ chunk sz n cs, r.length = sz
 | 0, cs, h => by simp at h; subst h; simp [chunk]
 | n + 1, cs, h => by
  have hl : cs.length = n * sz + sz := by rw [h, Nat.add_mul, Nat.one_mul]
  obtain ⟨h1, h2, h3⟩ := chunk_ok sz n (cs.drop sz) (by simp; omega)
  refine ⟨by rw [chunk, List.flatten_cons, h1, List.take_append_drop], by rw [chunk, List.length_cons, h2], fun r hr => ?_⟩
  rw [chunk] at hr
  rcases List.mem_cons.1 hr with rfl | hr
  · simp; omega
  · exact h3 r hr
def partsB : List Nat → List AV → Option (List (Nat × List AV))
 | [], [] => some []
 | i :: is, c :: cs => match cellsOf c, partsB is cs with
  | some x, some r => some ((i, x) :: r)
  | _, _ => none
 | _, _ => none
theorem partsB_ok {Rd : Nat → Nat → Value → Prop} : ∀ (is : List Nat) (aS : List AV) (us : List Value) (qs : List (Nat × List AV)), partsB is aS = some qs → LR (VR Rd none) aS us → is.length = us.length →
 qs.length = (is.zip us).length ∧ ∀ (j : Nat) p q, qs[j]? = some p → (is.zip us)[j]? = some q → p.1 = q.1 ∧ LR (VR Rd none) p.2 q.2.cells.toList
 | [], [], us, qs, hq, hl, _ => by simp only [partsB, Option.some.injEq] at hq; subst hq; simp
 | i :: is, c :: cs, us, qs, hq, hl, hlen => by
  cases us with
  | nil => have := hl.1; simp at this
  | cons u us =>
   simp only [partsB] at hq
   cases hc : cellsOf c with
   | none => simp [hc] at hq
   | some x =>
    cases hr : partsB is cs with
    | none => simp [hc, hr] at hq
    | some r =>
     simp only [hc, hr, Option.some.injEq] at hq
     subst hq
     obtain ⟨h1, h2⟩ := partsB_ok is cs us r hr ⟨by simpa using hl.1, fun j c u hc hu => hl.2 (j + 1) c u (by simpa using hc) (by simpa using hu)⟩ (by simpa using hlen)
     refine ⟨by simpa using h1, fun j p q hp hq => ?_⟩
     cases j with
     | zero =>
      simp at hp hq
      subst hp; subst hq
      obtain ⟨vs, hu, hlr⟩ := cellsOf_none hc (hl.2 0 c u rfl rfl)
      exact ⟨rfl, by simpa [hu] using hlr⟩
     | succ j => exact h2 j p q (by simpa using hp) (by simpa using hq)
 | [], _ :: _, _, _, hq, _, _ => by simp [partsB] at hq
 | _ :: _, [], _, _, hq, _, _ => by simp [partsB] at hq
section
variable {P : Program} {st : St} {d : Nat} {ty : TypeId} {pos : String} {af : Array Edge} {gd : Option (Nat × Bool)} {K : St → Prop}
theorem SR.froze {w0 : Bs} {w w' : World} {Rd0 : Nat → Nat → Value → Prop} {e : Env} {h : Hp} (hs : SR w0 Rd0 e h w) {us : List Value} {t : TypeId} (hx : Ext w w') (hb : w'.heap[w.heap.size]? = some (.cells us.toArray t (0, 0))) :
 ∀ (j : Nat) u, us[j]? = some u → RDx w0 Rd0 e h w' w.heap.size j u := fun j u hj => by
 refine ⟨?_, fun hlt => ?_, fun k ob hk hbk => ?_⟩
 · rw [cell_of_row w' w.heap.size j us.toArray t (0, 0) hb]; simpa using hj
 · exact absurd (hs.ext.mine (Nat.le_refl _)) hlt
 · have := (hs.base _ _ _ hk hbk).2; omega
theorem Ga.later {w0 : Bs} {w w' : World} {Rd0 : Nat → Nat → Value → Prop} {e : Env} {a : Act} (h : Ga w0 Rd0 e st a w) (hx : Ext w w') : Ga w0 Rd0 e st a w' :=
 ⟨h.n, h.d, (h.sr.later hx).1, h.tr.mono (h.sr.later hx).2⟩
theorem run_buildSlice' (w : World) (t e : TypeId) (len : Nat) (parts : Array (Nat × Value)) (ie : TypeInfo) (z : Value)
 (hu : P.underlying t = some (.slice e)) (hie : P.info? e = some ie) (hz : ie.zero = some z) (hsmall : len * ie.size ≤ 16777216) :
 ∃ c0 : Array Value, c0.size = len * ie.size ∧ ∀ cells, Instr.fill (fun i => some (i * ie.size, ie.size)) c0 parts.toList = some cells →
 (Instr.buildSlice t len parts).run P w = .ok (.slice (some ⟨w.heap.size, 0, none⟩) len len) (w.alloc (.cells cells e)) := by
 have hsmall' : ¬ len * ie.size > 2 ^ 24 := by omega
 by_cases h0 : len * ie.size = 0
 · refine ⟨#[], by simp [h0], fun cells h => ?_⟩
   have e0 : Array.range 0 = #[] := Array.range_zero'
   simp only [Instr.buildSlice, Sem.run_bind, run_underlying hu, Result.andThen_ok, run_sizeOf' w hie, hsmall', if_false, h0, if_true]
   simp [h, newRow, h0, e0, newObj, Sem.run]
 · refine ⟨(Array.range (len * ie.size)).map (z.cells[· % z.cells.size]!), by simp, fun cells h => ?_⟩
   exact run_buildSlice w t e len parts cells ie z hu hie hz hsmall' h0 h
theorem SS.buildSlice {t E : TypeId} {len sz by_ : Nat} {parts : Array (Nat × Operand)} {z : List Value} {h' : Hp} {aS cs : List AV} {qs : List (Nat × List AV)} (ht : elA P t = some (E, sz, by_, z))
 (hl : lendAs st.h (parts.toList.map fun p => st.ev p.2) = some (h', aS)) (hq : partsB (parts.toList.map (·.1)) aS = some qs) (hf : fillA (fun i => some (i * sz, sz)) (List.replicate (len * sz) .un) qs = some cs)
 (h1 : cs.all AV.one = true) (hbig : len * sz ≤ 16777216) (hpos : 0 < sz) (hd : d < st.n) (hK : K ⟨st.n, (d, .sl true sz (chunk sz len cs)) :: st.t, h'⟩) : SS P ⟨some d, .buildSlice t len parts, ty, pos, af, gd⟩ st K := by
 intro w0 Rd0 e a w next Q h hn
 obtain ⟨i, zv, h2, h3, h4, h5, rfl, _, _⟩ := elA_parts ht
 have hargs : LR (VR (RDx w0 Rd0 e st.h w) (some e)) (parts.toList.map fun p => st.ev p.2) (parts.toList.map fun p => a.eval p.2) := by
  refine ⟨by simp, fun j c u h1 h2 => ?_⟩
  rw [List.getElem?_map] at h1 h2
  obtain ⟨x, hx, rfl⟩ := Option.map_eq_some_iff.1 h1
  rw [hx] at h2
  simp at h2
  subst h2
  exact h.ev x.2
 obtain ⟨e1, l, hv⟩ := lendAs_ok _ _ _ _ _ _ h.sr hargs hl
 have hg := h.lent l
 obtain ⟨p1, p2⟩ := partsB_ok _ _ _ _ hq hv (by simp)
 obtain ⟨c0, hc0, hrun⟩ := run_buildSlice' (P := P) w t E len (parts.map fun (i, x) => (i, a.eval x)) i zv h2 h3 h4 hbig
 have hlr0 : LR (VR (RDx w0 Rd0 e1 h' w) none) (List.replicate (len * i.size) .un) c0.toList := by
  refine ⟨by simp [hc0], fun j c u hc hu => ?_⟩
  rw [List.getElem?_replicate] at hc
  split at hc
  · simp at hc; subst hc; exact .un
  · cases hc
 obtain ⟨cells, hfill, hlr⟩ := fill_ok (place := fun j => some (j * i.size, i.size)) qs _ _ cs c0 hlr0 p1 p2 hf
 have hzip : (parts.toList.map (·.1)).zip (parts.toList.map fun p => a.eval p.2) = (parts.map fun (i, x) => (i, a.eval x)).toList := by
  rw [Array.toList_map, List.zip_map']
 rw [hzip] at hfill
 have hlen : cs.length = len * i.size := by
  have hx := hlr.1
  have : ∀ (ps : List (Nat × List AV)) (c c' : List AV), fillA (fun j => some (j * i.size, i.size)) c ps = some c' → c'.length = c.length := by
   intro ps
   induction ps with
   | nil => intro c c' hh; simp only [fillA, Option.some.injEq] at hh; rw [hh]
   | cons p ps ih =>
    intro c c' hh
    obtain ⟨k, xs⟩ := p
    simp only [fillA] at hh
    split at hh
    · rw [ih _ _ hh, setCells_length]
    · cases hh
  rw [this _ _ _ hf]; simp
 obtain ⟨k1, k2, k3⟩ := chunk_ok i.size len cs hlen
 have hx : Ext w (w.alloc (.cells cells E)) := (Ext.refl w).alloc _
 have hg2 := hg.later hx
 have hfz := hg.sr.froze (us := cells.toList) (t := E) hx (by simpa using hNew w (.cells cells E))
 refine wp_value (v := .slice (some ⟨w.heap.size, 0, none⟩) len len) (w' := w.alloc (.cells cells E)) ?_ (hn _ hK e1 _ _ (hg2.put hd ?_))
 · simp only [execOp, Sem.run_bind, hrun cells hfill, Result.andThen_ok, Sem.run_pure]
 · have hlm : len ≤ maxLen := by
    unfold maxLen
    have : len * 1 ≤ len * i.size := Nat.mul_le_mul_left _ hpos
    omega
   have hlr' : LR (VR (RDx w0 Rd0 e1 h' (w.alloc (.cells cells E))) none) (chunk i.size len cs).flatten cells.toList := by
    rw [k1]
    exact hlr.imp fun _ _ hv => hv.mono (hg.sr.later hx).2
   have := VR.sl (E := some e1) (Rd := RDx w0 Rd0 e1 h' (w.alloc (.cells cells E))) (tight := true) (a := some ⟨w.heap.size, 0, none⟩) (cap := len) cells.toList k3 (fun c hc => by rw [k1] at hc; exact List.all_eq_true.1 h1 c hc) hlr'.1 hlr'.2 (by rw [k2]; exact Nat.le_refl _) hlm (fun _ => k2.symm) (fun _ => ⟨_, 0, rfl, fun j u hj => by rw [Nat.zero_add]; exact hfz j u hj⟩)
   rw [k2] at this
   exact this
def bndA (st : St) (dflt : Nat) : Option Operand → Option Nat
 | none => some dflt
 | some x => match st.ev x with
  | .v (.int _ i) => if 0 ≤ i then some i.toNat else none
  | _ => none
theorem bndA_ok {w0 : Bs} {Rd0 : Nat → Nat → Value → Prop} {e : Env} {a : Act} {w : World} (h : Ga w0 Rd0 e st a w) {x : Operand} {n m : Nat} (hb : bndA st n (some x) = some m) : ∃ k, a.eval x = .int k m := by
 simp only [bndA] at hb
 split at hb
 · rename_i k i hx
   split at hb
   · rename_i h0
     simp only [Option.some.injEq] at hb
     subst hb
     have hv := h.ev x
     rw [hx] at hv
     exact ⟨k, by rw [hv.v_inv, Int.toNat_of_nonneg h0]⟩
   · cases hb
 · cases hb
theorem run_slice_all' {t E : TypeId} {i : TypeInfo} (hu : P.underlying t = some (.slice E)) (hi : P.info? E = some i) (ad : Option Addr) (n cap l h : Nat) (m : Option Nat) (ml : Nat) (lo hi' mx : Option Value) (w : World)
 (hlo : (lo = none ∧ l = 0) ∨ ∃ k, lo = some (.int k (l : Int))) (hhi : (hi' = none ∧ h = n) ∨ ∃ k, hi' = some (.int k (h : Int))) (hmx : (mx = none ∧ ml = cap) ∨ ((∃ k, mx = some (.int k (ml : Int))) ∧ hi' ≠ none))
 (h1 : l ≤ h) (h2 : h ≤ n) (h3 : h ≤ ml) (h4 : ml ≤ cap) (h5 : n ≤ cap) :
 (Instr.sliceAt t (.slice ad n cap) lo hi' mx).run P w = .ok (.slice (if ml = l then ad else ad.map (·.add (l * i.size))) (h - l) (ml - l)) w := by
 have hel : P.elem t = E := by simp [Program.elem, hu]
 have hu' : P.underlying t = some (.slice (P.elem t)) := by rw [hel]; exact hu
 rw [run_sliceAt_slice w t _ lo hi' mx hu']
 have hsz := run_sizeOf' (P := P) w hi
 rcases hlo with ⟨rfl, rfl⟩ | ⟨kl, rfl⟩ <;> rcases hhi with ⟨rfl, rfl⟩ | ⟨kh, rfl⟩ <;> rcases hmx with ⟨rfl, rfl⟩ | ⟨⟨km, rfl⟩, hne⟩
 · rw [run_slice_all w t ad h ml hu']; simp [hel, hsz, sliced]
 · exact absurd rfl hne
 · rw [run_slice_h w t ad n ml hu' kh h (by omega) (by omega)]; simp [hel, hsz, sliced]
 · rw [run_slice_hm w t ad n cap hu' kh km h ml (by omega) (by omega) (by omega)]; simp [hel, hsz, sliced]
 · rw [run_slice_l w t ad h ml hu' kl l (by omega) (by omega)]; simp [hel, hsz, sliced]
 · exact absurd rfl hne
 · rw [run_slice_lh w t ad n ml hu' kl kh l h (by omega) (by omega) (by omega)]; simp [hel, hsz, sliced]
 · rw [run_slice_lhm w t ad n cap hu' kl kh km l h ml (by omega) (by omega) (by omega) (by omega)]; simp [hel, hsz, sliced]
end
end
noncomputable section
open Go Go.RowKit
theorem flatten_take_of {sz : Nat} : ∀ (rows : List (List AV)) (h : Nat), (∀ r ∈ rows, r.length = sz) → (rows.take h).flatten = rows.flatten.take (h * sz)
 | [], h, _ => by simp
 | r :: rows, 0, _ => by simp
 | r :: rows, h + 1, hw => by
  have hr := hw r (by simp)
  rw [List.take_succ_cons, List.flatten_cons, List.flatten_cons, flatten_take_of rows h (fun x hx => hw x (by simp [hx])), Nat.add_mul, Nat.one_mul, List.take_append]
  rw [List.take_of_length_le (l := r) (by omega), hr, Nat.add_sub_cancel]
theorem flatten_drop_of {sz : Nat} : ∀ (rows : List (List AV)) (h : Nat), (∀ r ∈ rows, r.length = sz) → (rows.drop h).flatten = rows.flatten.drop (h * sz)
 | [], h, _ => by simp
 | r :: rows, 0, _ => by simp
 | r :: rows, h + 1, hw => by
  have hr := hw r (by simp)
  rw [List.drop_succ_cons, List.flatten_cons, flatten_drop_of rows h (fun x hx => hw x (by simp [hx])), Nat.add_mul, Nat.one_mul, List.drop_append]
  rw [List.drop_of_length_le (l := r) (by omega), hr, Nat.add_sub_cancel, List.nil_append]
theorem pieceA_ok {Rd : Nat → Nat → Value → Prop} {E E' : Option Env} {tt : Bool} {sz : Nat} {rows : List (List AV)} {v : Value} (hv : VR Rd E (.sl tt sz rows) v) {l h : Nat} {m : Option Nat} (h1 : l ≤ h) (h2 : h ≤ rows.length) (hm : ∀ x, m = some x → h ≤ x ∧ x ≤ rows.length) :
 ∃ ad cap, v = .slice ad rows.length cap ∧ rows.length ≤ cap ∧ VR Rd E' (pieceA tt rows sz l h m) (.slice (if m.getD cap = l then ad else ad.map (·.add (l * sz))) (h - l) (m.getD cap - l)) := by
 obtain ⟨ad, cap, us, rfl, hw, h1c, hlr, hcap, hmx, htt, ha⟩ := hv.sl_inv
 refine ⟨ad, cap, rfl, hcap, ?_⟩
 have hml : h ≤ m.getD cap ∧ m.getD cap ≤ cap := by
  cases m with
  | none => simp; omega
  | some x => have := hm x rfl; simp; omega
 have hfl : ((rows.take h).drop l).flatten = (rows.flatten.take (h * sz)).drop (l * sz) := by
  rw [flatten_drop_of _ _ (fun r hr => hw r (List.mem_of_mem_take hr)), flatten_take_of _ _ hw]
 have hlen : ((rows.take h).drop l).length = h - l := by simp; omega
 have hsub := (hlr.take (h * sz)).drop (l * sz)
 rw [← hfl] at hsub
 have := VR.sl (E := E') (Rd := Rd) (tight := pieceT tt rows.length h m) (a := if m.getD cap = l then ad else ad.map (·.add (l * sz))) (cap := m.getD cap - l) (rows := (rows.take h).drop l) (sz := sz) ((us.take (h * sz)).drop (l * sz))
  (fun r hr => hw r (List.mem_of_mem_take (List.mem_of_mem_drop hr))) (fun c hc => by
   rw [hfl] at hc
   exact h1c c (List.mem_of_mem_take (List.mem_of_mem_drop hc))) hsub.1 hsub.2 (by rw [hlen]; omega) (by omega) (fun htight => ?_) (fun hne => ?_)
 · rw [hlen] at this
   exact this
 · rw [hlen]
   cases m with
   | none =>
    simp only [pieceT, Bool.and_eq_true, beq_iff_eq] at htight
    have := htt htight.1
    simp only [Option.getD_none]
    omega
   | some x =>
    simp only [pieceT, beq_iff_eq] at htight
    simp only [Option.getD_some]
    omega
 · have hne1 : us ≠ [] := by rintro rfl; simp at hne
   obtain ⟨b, o, rfl, hc⟩ := ha hne1
   have hlt : l < h := by
    rcases Nat.lt_or_ge l h with hh | hh
    · exact hh
    · have : l = h := by omega
      subst this
      have hcon : (List.drop (l * sz) (List.take (l * sz) us)) = [] := List.drop_eq_nil_of_le (by rw [List.length_take]; omega)
      exact absurd hcon hne
   rw [if_neg (by omega)]
   refine ⟨b, o + l * sz, by simp [Addr.add_lit], fun j u hj => ?_⟩
   rw [List.getElem?_drop, List.getElem?_take] at hj
   split at hj
   · have := hc _ u hj
     rw [Nat.add_assoc]
     exact this
   · cases hj
section
variable {P : Program} {st : St} {d : Nat} {ty : TypeId} {pos : String} {af : Array Edge} {gd : Option (Nat × Bool)} {K : St → Prop}
def mxA (st : St) : Option Operand → Option (Option Nat)
 | none => some none
 | some x => (bndA st 0 (some x)).map some
theorem SS.slice {t E : TypeId} {sz by_ : Nat} {z : List Value} {x : Operand} {lo hi mx : Option Operand} {h' : Hp} {tt : Bool} {rows : List (List AV)} {l h : Nat} {m : Option Nat} (ht : elA P t = some (E, sz, by_, z))
 (hl : lendC st.h (st.ev x) = some (h', .sl tt sz rows)) (hlo : bndA st 0 lo = some l) (hhi : bndA st rows.length hi = some h) (hmx : mxA st mx = some m) (hmh : mx.isSome = true → hi.isSome = true)
 (h1 : l ≤ h) (h2 : h ≤ rows.length) (h3 : ∀ x, m = some x → h ≤ x ∧ x ≤ rows.length) (hd : d < st.n) (hK : K ⟨st.n, (d, pieceA tt rows sz l h m) :: st.t, h'⟩) :
 SS P ⟨some d, .slice t x lo hi mx, ty, pos, af, gd⟩ st K := by
 intro w0 Rd0 e a w next Q hga hn
 obtain ⟨i, zv, p2, p3, p4, p5, rfl, _, _⟩ := elA_parts ht
 obtain ⟨e1, len, hv⟩ := lendC_ok hga.sr (hga.ev x) hl
 obtain ⟨ad, cap, hxv, hcap, hpiece⟩ := pieceA_ok (E' := some e1) hv (m := m) h1 h2 h3
 have hg := hga.lent len
 refine wp_value ?_ (hn _ hK e1 _ _ (hg.put hd hpiece))
 have hmc : h ≤ m.getD cap ∧ m.getD cap ≤ cap := by
  cases m with
  | none => simp; omega
  | some x => have := h3 x rfl; simp; omega
 have := run_slice_all' (P := P) p2 p3 ad rows.length cap l h none (m.getD cap) (lo.map a.eval) (hi.map a.eval) (mx.map a.eval) w
  (by
   cases lo with
   | none => simp [bndA] at hlo; exact .inl ⟨rfl, hlo.symm⟩
   | some y => obtain ⟨k, hk⟩ := bndA_ok hga hlo; exact .inr ⟨k, by simp [hk]⟩)
  (by
   cases hi with
   | none => simp [bndA] at hhi; exact .inl ⟨rfl, hhi.symm⟩
   | some y => obtain ⟨k, hk⟩ := bndA_ok hga hhi; exact .inr ⟨k, by simp [hk]⟩)
  (by
   cases mx with
   | none => simp [mxA] at hmx; subst hmx; exact .inl ⟨rfl, rfl⟩
   | some y =>
    simp only [mxA] at hmx
    obtain ⟨m', hm', rfl⟩ := Option.map_eq_some_iff.1 hmx
    obtain ⟨k, hk⟩ := bndA_ok hga hm'
    refine .inr ⟨⟨k, by simp [hk]⟩, ?_⟩
    have := hmh rfl
    cases hi with
    | none => cases this
    | some y => simp)
  h1 h2 hmc.1 hmc.2 hcap
 simp only [execOp, Sem.run_bind, hxv, this, Result.andThen_ok, Sem.run_pure]
theorem SS.make {t E : TypeId} {sz by_ : Nat} {z : List Value} {x y : Operand} {k1 k2 : IntKind} {n : Nat} (ht : elA P t = some (E, sz, by_, z)) (hx : st.ev x = .v (.int k1 n)) (hy : st.ev y = .v (.int k2 n))
 (hby : by_ * n ≤ 140737488355328) (hm : n ≤ maxLen) (hz1 : z.all Value.oneCell' = true) (hz2 : z.all (fun v => (cvA v).one) = true) (hpos : 0 < sz) (hd : d < st.n)
 (hK : K ⟨st.n, (d, .ow d) :: tkill d st.t, (d, some (.arr E sz (List.replicate n (z.map cvA)) true)) :: hkill d st.h⟩) : SS P ⟨some d, .makeSlice t x y, ty, pos, af, gd⟩ st K := by
 intro w0 Rd0 e a w next Q hga hn
 obtain ⟨i, zv, p2, p3, p4, p5, rfl, rfl, rfl⟩ := elA_parts ht
 have hvx := hga.ev x
 rw [hx] at hvx
 have hvx := hvx.v_inv
 have hvy := hga.ev y
 rw [hy] at hvy
 have hvy := hvy.v_inv
 have hmk := run_make (P := P) w t E i zv p2 p3 p4 k1 k2 n n (by omega) (Int.le_refl _) (by
  have h : ((i.bytes * n : Nat) : Int) ≤ 281474976710656 := by omega
  rwa [Int.natCast_mul] at h) (by unfold maxLen at hm; omega)
 simp only [Int.toNat_natCast] at hmk
 obtain ⟨hs1, hR1⟩ := hga.sr.kill d
 have hzl : zv.cells.toList.length = i.size := by simpa using p5
 have hrows : ∀ r ∈ List.replicate n (zv.cells.toList.map cvA), r.length = i.size := fun r hr => by
  rw [List.eq_of_mem_replicate hr]; simp [p5]
 have hrl : (List.replicate n (zv.cells.toList.map cvA)).length = n := by simp
 have hfl := flatten_len hrows
 rw [hrl] at hfl
 have hget : ∀ (n j : Nat) c, (List.replicate n (zv.cells.toList.map cvA)).flatten[j]? = some c → ∃ v, zv.cells.toList[j % i.size]? = some v ∧ c = cvA v := by
  intro n
  induction n with
  | zero => intro j c h; simp at h
  | succ n ih =>
   intro j c h
   rw [List.replicate_succ, List.flatten_cons] at h
   by_cases hj : j < i.size
   · rw [List.getElem?_append_left (by simpa [p5] using hj), List.getElem?_map] at h
     obtain ⟨v, hv, rfl⟩ := Option.map_eq_some_iff.1 h
     exact ⟨v, by rw [Nat.mod_eq_of_lt hj]; exact hv, rfl⟩
   · rw [List.getElem?_append_right (by simp [p5]; omega)] at h
     have hll : (zv.cells.toList.map cvA).length = i.size := by simpa using p5
     rw [hll] at h
     obtain ⟨v, hv, rfl⟩ := ih _ c h
     refine ⟨v, ?_, rfl⟩
     rw [← hv, Nat.mod_eq_sub_mod (Nat.le_of_not_lt hj)]
 have hcur : ∀ (j : Nat) u, (madeCells zv.cells (n * i.size)).toList[j]? = some u → zv.cells.toList[j % i.size]? = some u := by
  intro j u h
  simp only [madeCells, Array.toList_map, List.getElem?_map] at h
  obtain ⟨y, hy, rfl⟩ := Option.map_eq_some_iff.1 h
  have hjn : j < n * i.size := by
   have := (List.getElem?_eq_some_iff.1 hy).1; simpa using this
  have hyj : y = j := by
   have := (List.getElem?_eq_some_iff.1 hy).2; simpa using this.symm
  subst hyj
  have hlt : y % i.size < i.size := Nat.mod_lt _ hpos
  rw [p5]
  have : y % i.size < zv.cells.size := by rw [p5]; exact hlt
  simp [this]
 obtain ⟨hs2, hR2⟩ := hs1.newArr d E i.size n (rows := List.replicate n (zv.cells.toList.map cvA)) (cur := madeCells zv.cells (n * i.size)) hrows (fun c hc => by
  obtain ⟨j, hj, rfl⟩ := List.getElem_of_mem hc
  obtain ⟨v, hv, hcv⟩ := hget n j _ (List.getElem?_eq_getElem hj)
  rw [hcv]
  exact List.all_eq_true.1 hz2 v (List.mem_of_getElem? hv))
  ⟨by rw [hfl]; simp [size_madeCells, hfl], fun j c u hc hu => by
   obtain ⟨v, hv, rfl⟩ := hget n j c hc
   rw [List.getElem?_take] at hu
   split at hu
   · have := hcur j u hu
     rw [hv] at this
     simp at this
     subst this
     exact cvA_ok v
   · cases hu⟩ (by rw [hrl]; exact Nat.le_refl _) hm (by rw [size_madeCells]) (hnom_kill d st.h) (by have := hga.n.2; omega) (w.alloc (.cells (madeCells zv.cells (n * i.size)) E)) rfl (hga.sr.ext.alloc _)
 rw [hrl] at hs2 hR2
 refine wp_value (v := .slice (some ⟨w.heap.size, 0, none⟩) n n) (w' := w.alloc (.cells (madeCells zv.cells (n * i.size)) E)) ?_ (hn _ hK _ _ _ ⟨by simpa [Act.put] using hga.n, hga.d, hs2, TR.put ?_ (by rw [hga.n.1]; exact hd) ?_⟩)
 · simp only [execOp, Sem.run_bind, hvx, hvy, hmk, Result.andThen_ok, Sem.run_pure]
 · exact (((hga.tr.kill d).mono hR1).mono hR2).env d (tnom_kill d st.t) (fun _ hi => Env.upd_blk' hi) (fun _ hi => Env.upd_sv' hi)
 · have := VR.ow (Rd := RDx w0 Rd0 (e.upd d (some w.heap.size) (.slice (some ⟨w.heap.size, 0, none⟩) n n) 0) ((d, some (.arr E i.size (List.replicate n (zv.cells.toList.map cvA)) true)) :: hkill d st.h) (w.alloc (.cells (madeCells zv.cells (n * i.size)) E))) (e := e.upd d (some w.heap.size) (.slice (some ⟨w.heap.size, 0, none⟩) n n) 0) (k := d)
   rw [Env.upd_sv] at this
   exact this
end
end
noncomputable section
open Go Go.RowKit
def cellsF (st : St) (p : AV) (n : Nat) : Option (List AV) :=
 match p with
 | .pt k o => match hget st.h k with
  | some (.box t cs0) => if t ≠ itT ∧ o + n ≤ cs0.length then some ((cs0.drop o).take n) else none
  | _ => none
 | .pe k i sz o => match hget st.h k with
  | some (.arr _ sz' rows _) => match rows[i]? with
   | some r => if o + n ≤ r.length ∧ sz' = sz then some ((r.drop o).take n) else none
   | none => none
  | some (.nr _ cs0) => match cs0[i]? with
   | some c => if sz = 1 ∧ o = 0 ∧ n = 1 then some [c] else none
   | none => none
  | _ => none
 | .fp cs => if n ≤ cs.length then some (cs.take n) else none
 | _ => none
theorem cellsF_at {st : St} {p : AV} {n : Nat} {cs : List AV} (h : cellsF st p n = some cs) : cellsAt st p n cs := by
 unfold cellsF at h
 split at h
 · rename_i k o
   split at h
   · rename_i t cs0 hk
     split at h
     · rename_i hn; simp only [Option.some.injEq] at h; exact ⟨t, cs0, hk, hn.1, hn.2, h.symm⟩
     · cases h
   · cases h
 · rename_i k i sz o
   split at h
   · rename_i t sz' rows wr hk
     split at h
     · rename_i r hr
       split at h
       · rename_i hn
         obtain ⟨hn, rfl⟩ := hn
         simp only [Option.some.injEq] at h
         exact .inl ⟨t, rows, wr, r, hk, hr, hn, h.symm⟩
       · cases h
     · cases h
   · rename_i t cs0 hk
     split at h
     · rename_i c hc
       split at h
       · rename_i hn
         simp only [Option.some.injEq] at h
         exact .inr ⟨t, cs0, c, hk, hc, hn.1, hn.2.1, hn.2.2, h.symm⟩
       · cases h
     · cases h
   · cases h
 · rename_i cs0
   split at h
   · rename_i hn; simp only [Option.some.injEq] at h; exact ⟨hn, h.symm⟩
   · cases h
 · cases h
def wrapA : Bool → List AV → Option AV
 | true, cs => some (.ag cs)
 | false, [c] => some c
 | false, _ => none
def loadF (P : Program) (st : St) (p : AV) (t : TypeId) : Option AV :=
 match tyA P t with
 | some (ag, n) => match cellsF st p n with
  | some cs => wrapA ag cs
  | none => none
 | none => none
theorem loadF_ok {P : Program} {st : St} {p c : AV} {t : TypeId} (h : loadF P st p t = some c) : ∃ ag n cs, tyA P t = some (ag, n) ∧ cellsAt st p n cs ∧ ((ag = true ∧ c = .ag cs) ∨ (ag = false ∧ cs = [c])) := by
 unfold loadF at h
 split at h
 · rename_i ag n ht
   split at h
   · rename_i cs hc
     refine ⟨ag, n, cs, ht, cellsF_at hc, ?_⟩
     unfold wrapA at h
     split at h
     · simp only [Option.some.injEq] at h; exact .inl ⟨rfl, h.symm⟩
     · simp only [Option.some.injEq] at h; subst h; exact .inr ⟨rfl, rfl⟩
     · cases h
   · cases h
 · cases h
section
variable {P : Program} {st : St} {d : Option Tmp} {ty : TypeId} {pos : String} {af : Array Edge} {gd : Option (Nat × Bool)} {K : St → Prop}
theorem RS.loadF {t : TypeId} {x : Operand} {c : AV} (h : loadF P st (st.ev x) t = some c) : RS P ⟨d, .load t x, ty, pos, af, gd⟩ st c := by
 obtain ⟨ag, n, cs, h1, h2, h3⟩ := loadF_ok h
 exact RS.load h1 h2 h3
def resF (P : Program) (st : St) : List ResultVar → Option (List AV)
 | [] => some []
 | .tmp i :: rs => match resF P st rs with
  | some cs => some (tget st.t i :: cs)
  | none => none
 | .cell a t :: rs => match loadF P st (tget st.t a) t, resF P st rs with
  | some c, some cs => some (c :: cs)
  | _, _ => none
def oneF : List AV → AV
 | [c] => c
 | cs => .tu cs
def resOne (tmps : Array Value) (r : ResultVar) : Sem Value :=
 match r with
 | .tmp t => pure (tmps.getD t undef)
 | .cell a t => do loadVar t (← asAddr (tmps.getD a undef))
theorem results_eq (fn : Func) (tmps : Array Value) : results fn tmps = (do
 let vs ← fn.results.mapM (resOne tmps)
 pure (if h : vs.size = 1 then vs[0] else .tuple vs)) := by
 unfold results
 congr 1
theorem resF_ok {w0 : Bs} {Rd0 : Nat → Nat → Value → Prop} {e : Env} {a : Act} {w : World} (h : Ga w0 Rd0 e st a w) : ∀ (rs : List ResultVar) (cs : List AV), resF P st rs = some cs →
 ∃ us, (rs.mapM (resOne a.tmps)).run P w = .ok us w ∧ LR (VR (RDx w0 Rd0 e st.h w) (some e)) cs us
 | [], cs, hc => by
  simp only [resF, Option.some.injEq] at hc
  subst hc
  exact ⟨[], by simp, LR.nil⟩
 | .tmp i :: rs, cs, hc => by
  simp only [resF] at hc
  split at hc
  · rename_i cs' hr
    simp only [Option.some.injEq] at hc
    subst hc
    obtain ⟨us, hrun, hlr⟩ := resF_ok h rs cs' hr
    refine ⟨_ :: us, ?_, LR.cons (h.tr i) hlr⟩
    rw [List.mapM_cons]
    simp only [resOne, Sem.run_bind, Sem.run_pure, Result.andThen_ok, hrun]
  · cases hc
 | .cell x t :: rs, cs, hc => by
  simp only [resF] at hc
  split at hc
  · rename_i c cs' hl hr
    simp only [Option.some.injEq] at hc
    subst hc
    obtain ⟨us, hrun, hlr⟩ := resF_ok h rs cs' hr
    obtain ⟨ag, n, cells, h1, h2, h3⟩ := loadF_ok hl
    obtain ⟨b, o, vs, hv, hvl, hvlr, hcell⟩ := cellsAt_ok h h2 (h.tr x)
    have hld := run_loadVar' (P := P) h1 (b := b) (o := o) (us := vs) (w := w) hvl hcell
    rcases h3 with ⟨hag, rfl⟩ | ⟨hag, rfl⟩
    · refine ⟨_ :: us, ?_, LR.cons (.ag vs hvlr.1 hvlr.2) hlr⟩
      rw [List.mapM_cons]
      simp only [resOne, Sem.run_bind, hv, asAddr, Sem.run_pure, Result.andThen_ok, hld.1 hag, hrun]
    · obtain ⟨u, rfl⟩ : ∃ u, vs = [u] := by
       match vs, hvlr.1 with
       | [u], _ => exact ⟨u, rfl⟩
      refine ⟨_ :: us, ?_, LR.cons (hvlr.2 0 c u rfl rfl) hlr⟩
      rw [List.mapM_cons]
      simp only [resOne, Sem.run_bind, hv, asAddr, Sem.run_pure, Result.andThen_ok, hld.2 hag u rfl, hrun]
  · cases hc
def PRet (P : Program) (fn : Func) (H : Hp) (r : AV) (x : Exit) (st : St) : Prop :=
 (x = .normal ∨ x = .ret) ∧ ∃ t2 cs, SLe P st ⟨fn.ntmps, t2, H⟩ ∧ resF P ⟨fn.ntmps, t2, H⟩ fn.results.toList = some cs ∧ oneF cs = r
def entT : Nat → List AV → List (Nat × AV)
 | _, [] => []
 | i, c :: cs => (i, c) :: entT (i + 1) cs
theorem entT_get : ∀ (cs : List AV) (k i : Nat), tget (entT k cs) i = if k ≤ i then cs.getD (i - k) .un else .un
 | [], k, i => by simp [entT, tget]
 | c :: cs, k, i => by
  simp only [entT, tget]
  by_cases hi : i = k
  · subst hi; simp
  · rw [if_neg hi, entT_get cs (k + 1) i]
    by_cases hk : k + 1 ≤ i
    · have : k ≤ i := by omega
      simp only [hk, this, if_true]
      rw [show i - k = (i - (k + 1)) + 1 by omega]
      rfl
    · have : ¬ k ≤ i := by omega
      simp [hk, this]
def isDL : Obj → Bool
 | .deferred _ => true
 | .loop _ => true
 | _ => false
theorem OR.keep {Rd : Nat → Nat → Value → Prop} {e : Env} {w w' : World} {k : Nat} {ob : Ob} (h : OR Rd e w k ob) (hw : ∀ (b : Nat) o, w.heap[b]? = some o → isDL o = false → w'.heap[b]? = some o) : OR Rd e w' k ob := by
 cases ob with
 | box t cs =>
  obtain ⟨h0, b, us, h1, h2, h3⟩ := h
  refine ⟨h0, b, us, h1, ?_, h3⟩
  rcases h2 with ⟨h0, h⟩ | ⟨h0, bm, n0, mask, cur, seen, h1, h, h2⟩
  · exact .inl ⟨h0, hw _ _ h rfl⟩
  · exact .inr ⟨h0, bm, n0, mask, cur, seen, h1, hw _ _ h rfl, h2⟩
 | arr t sz rows wr =>
  obtain ⟨h0, h1, h2, h3⟩ := h
  refine ⟨h0, h1, h2, ?_⟩
  rcases h3 with h3 | ⟨b, cap, cur, a1, a2, a3, a4, a5, a6, a7, a8⟩
  · exact .inl h3
  · exact .inr ⟨b, cap, cur, a1, a2, a3, a4, hw _ _ a5 rfl, a6, a7, a8⟩
 | mp d es =>
  obtain ⟨h0, b, arr, clock, h1, h2, h3⟩ := h
  exact ⟨h0, b, arr, clock, h1, hw _ _ h2 rfl, h3⟩
 | nr t cs =>
  obtain ⟨h0, h3⟩ := h
  refine ⟨h0, ?_⟩
  rcases h3 with h3 | ⟨b, cap, cur, a1, a2, a3, a4, a5, a6, a7⟩
  · exact .inl h3
  · exact .inr ⟨b, cap, cur, a1, a2, a3, a4, hw _ _ a5 rfl, a6, a7⟩
theorem cell_keep {w w' : World} {p : Addr} {u : Value} (hw : ∀ (b : Nat) o, w.heap[b]? = some o → isDL o = false → w'.heap[b]? = some o) (h : w.cell? p = some u) : w'.cell? p = some u := by
 unfold World.cell? at h ⊢
 cases hb : w.heap[p.block]? with
 | none => rw [hb] at h; cases h
 | some o =>
  rw [hb] at h
  have : isDL o = false := by cases o <;> first | rfl | (simp at h)
  rw [hw _ _ hb this]
  exact h
theorem putObj_keep {w : World} {D : Nat} {o0 o : Obj} (h : w.heap[D]? = some o0) (hd : isDL o0 = true) : ∀ (b : Nat) o1, w.heap[b]? = some o1 → isDL o1 = false → (w.putObj D o).heap[b]? = some o1 := fun b o1 hb ho => by
 have hne : b ≠ D := fun e => by rw [e, h] at hb; cases hb; rw [hd] at ho; cases ho
 rw [World.putObj_heap_other hne]
 exact hb
theorem SR.putObj {w0 : Bs} {Rd0 : Nat → Nat → Value → Prop} {e : Env} {h : Hp} {w : World} (hs : SR w0 Rd0 e h w) {D : Nat} {o0 : Obj} (o : Obj) (hD : w.heap[D]? = some o0) (hd : isDL o0 = true) (hm : w0.mine D) :
 SR w0 Rd0 e h (w.putObj D o) ∧ ∀ b o' u, RDx w0 Rd0 e h w b o' u → RDx w0 Rd0 e h (w.putObj D o) b o' u := by
 have hk := putObj_keep (o := o) hD hd
 have hR : ∀ b o' u, RDx w0 Rd0 e h w b o' u → RDx w0 Rd0 e h (w.putObj D o) b o' u := fun b o' u ⟨h1, h2, h3⟩ => ⟨cell_keep hk h1, h2, h3⟩
 refine ⟨⟨hs.ext.step rfl rfl rfl (by simp) fun b hb _ => World.putObj_heap_other fun e => hb (e ▸ hm), hs.good, fun k ob hk' => ((hs.ob k ob hk').mono hR).keep hk, fun k ob b hk' hb => ?_, hs.inj, hs.pin⟩, hR⟩
 have := hs.base k ob b hk' hb
 exact ⟨this.1, by simpa using this.2⟩
theorem Ga.putObj {w0 : Bs} {Rd0 : Nat → Nat → Value → Prop} {e : Env} {st : St} {a : Act} {w : World} (hg : Ga w0 Rd0 e st a w) {D : Nat} {o0 : Obj} (o : Obj) (hD : w.heap[D]? = some o0) (hd : isDL o0 = true) (hm : w0.mine D) : Ga w0 Rd0 e st a (w.putObj D o) :=
 ⟨hg.n, hg.d, (hg.sr.putObj o hD hd hm).1, hg.tr.mono (hg.sr.putObj o hD hd hm).2⟩
theorem leaves_marks {fn : Func} {tmps : Array Value} {R : Ending → World → Prop} (I : World → Prop) (hfin : ∀ w, I w → ∃ v, (results fn tmps).run P w = .ok v w ∧ R (.returned v) w) : ∀ (l : List Nat) (w : World), l.Nodup → (∀ D ∈ l, w.heap[D]? = some (.deferred (some []))) → I w →
 (∀ w D, D ∈ l → I w → w.heap[D]? = some (.deferred (some [])) → I (w.putObj D (.deferred none))) → LeavesInM Fence.wide 0 P fn tmps R (l.map mark) .returning w
 | [], w, _, _, hI, _ => hfin w hI
 | D :: l, w, hn, hD, hI, hs => by
  refine ⟨(by intro e; cases e), .inl ⟨D, w.putObj D (.deferred none), rfl, run_takeDeferred (hD D (by simp)), ?_⟩⟩
  rw [List.nodup_cons] at hn
  refine leaves_marks I hfin l _ hn.2 (fun D' hD' => ?_) (hs w D (by simp) hI (hD D (by simp))) fun w D' hD' => hs w D' (by simp [hD'])
  have hne : D' ≠ D := fun e => hn.1 (by rw [← e]; exact hD')
  rw [World.putObj_heap_other hne]
  exact hD D' (by simp [hD'])
theorem RCX.intro {f : FuncId} {fn : Func} {c : Code} {H0 : Hp} {aS : List AV} {H : Hp} {r : AV} (hf : P.funcs[f]? = some fn) (hnm : (fn.name == "runtime.NumGoroutine") = false) (hb : fn.body = some c) (hlen : aS.length ≤ fn.ntmps) (hbig : fn.ntmps ≤ 1000000)
 (h : AC true P c ⟨fn.ntmps, entT 0 aS, H0⟩ (PRet P fn H r)) : RCX P f H0 aS H r := by
 refine ⟨⟨fn, hf, hnm, by rw [hb]; rfl⟩, fun B Rd e w vs hsr0 hv0 => callsIn_wide.1 (callsIn_of_wp_marks (n := 0) hf hb trivial ?_)⟩
 obtain ⟨B', hB'⟩ : ∃ B' : Bs, B' = ⟨B.w, B.own, B.blk, B.sv, []⟩ := ⟨_, rfl⟩
 have hsr : SR B' Rd e H0 w := by
  subst hB'
  exact ⟨⟨hsr0.ext.os, hsr0.ext.tape, hsr0.ext.output, hsr0.ext.size, hsr0.ext.block⟩, hsr0.good, hsr0.ob, hsr0.base, hsr0.inj, hsr0.pin⟩
 have hback : ∀ e h w, SR B' Rd e h w → SR B Rd e h w := by
  subst hB'
  exact fun e h w hs => ⟨⟨hs.ext.os, hs.ext.tape, hs.ext.output, hs.ext.size, hs.ext.block⟩, hs.good, hs.ob, hs.base, hs.inj, hs.pin⟩
 have hbackR : ∀ e h w b o u, RDx B' Rd e h w b o u → RDx B Rd e h w b o u := by subst hB'; exact fun _ _ _ _ _ _ h => h
 have hv : LR (VR (RDx B' Rd e H0 w) (some e)) aS vs := by subst hB'; exact hv0
 have hdf : B'.df = [] := by subst hB'; rfl
 have hga : Ga B' Rd e ⟨fn.ntmps, entT 0 aS, H0⟩ { tmps := vs.toArray ++ Array.replicate (fn.ntmps - vs.toArray.size) undef, defers := [] } w := by
  refine ⟨⟨by simp [hv.1]; omega, hbig⟩, by rw [hdf], hsr, fun i => ?_⟩
  rw [entT_get]
  simp only [Nat.zero_le, if_true, Nat.sub_zero]
  by_cases hi : i < aS.length
  · have hc : aS[i]? = some aS[i] := List.getElem?_eq_getElem hi
    obtain ⟨u, hu, hr⟩ := hv.get hc
    have e1 : aS.getD i .un = aS[i] := by simp [List.getD, hc]
    have e2 : (vs.toArray ++ Array.replicate (fn.ntmps - vs.toArray.size) undef).getD i undef = u := by
     have hiv : i < vs.length := by rw [hv.1]; exact hi
     simp [Array.getD_eq_getD_getElem?, Array.getElem?_append, hiv]
     rw [List.getElem?_eq_getElem hiv] at hu
     simpa using hu
    rw [e1, e2]
    exact hr
  · have e1 : aS.getD i .un = .un := by simp [List.getD, List.getElem?_eq_none (Nat.le_of_not_lt hi)]
    rw [e1]
    exact .un
 refine h none B' Rd _ _ w _ (fun _ => rfl) hga fun x st' hx w1 Rd1 hbk e' a' w' hg' _ => ?_
 obtain ⟨hx, t2, cs, hle, hres, rfl⟩ := hx
 obtain ⟨e2, hg2⟩ := hle w1 Rd1 e' a' w' hg'
 obtain ⟨hmk, hmD⟩ := hbk.df ⟨[], by rw [hdf]; rfl, List.nodup_nil, by simp⟩
 obtain ⟨l, hl, hnd, hlD⟩ := hmk
 -- seen from the ground at the start
 have hg3 : ∀ a2 : Act, a2.tmps = a'.tmps → a2.defers = [] → Ga B' Rd e2 ⟨fn.ntmps, t2, H⟩ a2 w' := fun a2 h1 h2 => ⟨by rw [h1]; exact hg2.n, by rw [h2, hdf], hbk.sr _ _ _ hg2.sr, by rw [h1]; exact hg2.tr.mono fun b o u hh => hbk.rd _ _ _ b o u hh⟩
 have hresults : ∀ w'', Ga B' Rd e2 ⟨fn.ntmps, t2, H⟩ { tmps := a'.tmps, defers := [] } w'' → ∃ v, (results fn a'.tmps).run P w'' = .ok v w'' ∧ VR (RDx B' Rd e2 H w'') (some e2) (oneF cs) v := by
  intro w'' hg4
  obtain ⟨us, hrun, hlr⟩ := resF_ok (P := P) hg4 _ _ hres
  have hm : (fn.results.mapM (resOne a'.tmps)).run P w'' = .ok us.toArray w'' := by
   rw [Array.mapM_eq_mapM_toList]
   simp only [Sem.run_map, hrun]
   rfl
  rw [results_eq]
  simp only [Sem.run_bind, hm, Result.andThen_ok, Sem.run_pure]
  refine ⟨_, rfl, ?_⟩
  match cs, us, hlr with
  | [], [], hlr => exact .tu [] rfl (by simp)
  | [c], [u], hlr => simpa [oneF] using hlr.2 0 c u rfl rfl
  | c :: c2 :: cs, u :: u2 :: us, hlr =>
   have : ¬ (u :: u2 :: us).toArray.size = 1 := by simp
   rw [dif_neg this]
   exact .tu _ hlr.1 hlr.2
  | [], u :: us, hlr => have := hlr.1; simp at this
  | [c], [], hlr => have := hlr.1; simp at this
  | [c], u :: u2 :: us, hlr => have := hlr.1; simp at this
  | c :: c2 :: cs, [], hlr => have := hlr.1; simp at this
  | c :: c2 :: cs, [u], hlr => have := hlr.1; simp at this
 have hend : LeavesInM Fence.wide 0 P fn a'.tmps (fun x w' => ∃ v e', x = .returned v ∧ SR B Rd e' H w' ∧ VR (RDx B Rd e' H w') (some e') (oneF cs) v) a'.defers .returning w' := by
  rw [hg2.d, hl]
  refine leaves_marks (fun w'' => Ga B' Rd e2 ⟨fn.ntmps, t2, H⟩ { tmps := a'.tmps, defers := [] } w'') (fun w'' hg4 => ?_) l w' hnd (fun D hD => ?_) (hg3 _ rfl rfl) fun w'' D hD hg4 hDw => ?_
  · obtain ⟨v, hv1, hv2⟩ := hresults w'' hg4
    exact ⟨v, hv1, v, e2, rfl, hback _ _ _ hg4.sr, hv2.mono fun b o u hh => hbackR _ _ _ b o u hh⟩
  · obtain ⟨h1, h2⟩ := hlD D hD
    rw [hg2.sr.ext.block D h1, h2]
  · refine hg4.putObj _ hDw rfl (.inl ?_)
    rcases hmD D (by rw [hl]; exact List.mem_map.2 ⟨D, hD, rfl⟩) with h1 | h1
    · rw [hdf] at h1; cases h1
    · exact h1
 rcases hx with rfl | rfl <;> exact hend
theorem SLe.weak {n : Nat} {t t2 : List (Nat × AV)} {h h2 : Hp} (ht : ∀ i, tget t2 i = tget t i ∨ tget t2 i = .un) (hh : ∀ k, hget h2 k = hget h k ∨ hget h2 k = none) : SLe P ⟨n, t, h⟩ ⟨n, t2, h2⟩ := by
 intro w0 Rd0 e a w hg
 have back : ∀ k ob, hget h2 k = some ob → hget h k = some ob := fun k ob hk => by
  rcases hh k with h1 | h1
  · rw [← h1]; exact hk
  · rw [h1] at hk; cases hk
 have hR : ∀ b o u, RDx w0 Rd0 e h w b o u → RDx w0 Rd0 e h2 w b o u := fun b o u ⟨h1, h2, h3⟩ => ⟨h1, h2, fun k ob hk hb => h3 k ob (back k ob hk) hb⟩
 refine ⟨e, hg.n, hg.d, ⟨hg.sr.ext, hg.sr.good, fun k ob hk => (hg.sr.ob k ob (back k ob hk)).mono hR, fun k ob b hk hb => hg.sr.base k ob b (back k ob hk) hb, fun k k' ob ob' b hk hk' hb hb' => hg.sr.inj k k' ob ob' b (back k ob hk) (back k' ob' hk') hb hb', hg.sr.pin⟩, fun i => ?_⟩
 show VR _ _ (tget t2 i) _
 rcases ht i with h1 | h1
 · rw [h1]; exact (hg.tr i).mono hR
 · rw [h1]; exact .un
def keepT (t : List (Nat × AV)) : List Nat → List (Nat × AV)
 | [] => []
 | i :: is => (i, tget t i) :: keepT t is
def keepH (h : Hp) : List Nat → Hp
 | [] => []
 | k :: ks => (k, hget h k) :: keepH h ks
def LT (t : List (Nat × AV)) : List (Nat × AV) → Prop
 | [] => True
 | (i, c) :: t2 => tget t i = c ∧ LT t t2
def LH (h : Hp) : Hp → Prop
 | [] => True
 | (k, o) :: h2 => hget h k = o ∧ LH h h2
theorem SLe.lend (i : Nat) {h' : Hp} {c : AV} (hl : lendA st.h (tget st.t i) = some (h', c)) : SLe P st ⟨st.n, (i, c) :: st.t, h'⟩ := by
 intro w0 Rd0 e a w hg
 obtain ⟨e', l, hv⟩ := lendA_ok hg.sr (hg.tr i) hl
 have hg' := hg.lent l
 refine ⟨e', hg'.n, hg'.d, hg'.sr, fun j => ?_⟩
 simp only [tget]
 split
 · rename_i hj; subst hj; exact hv.some_of_none
 · exact hg'.tr j
theorem SLe.same {n : Nat} {t t2 : List (Nat × AV)} {h h2 : Hp} (ht : ∀ i, tget t2 i = tget t i) (hh : ∀ k, hget h2 k = hget h k) : SLe P ⟨n, t, h⟩ ⟨n, t2, h2⟩ := .weak (fun i => .inl (ht i)) (fun k => .inl (hh k))
end
def swp (a b k : Nat) : Nat := if k = a then b else if k = b then a else k
theorem swp_swp (a b k : Nat) : swp a b (swp a b k) = k := by
 unfold swp
 by_cases h1 : k = a
 · subst h1
   by_cases h2 : b = k <;> simp [h2]
 · by_cases h2 : k = b
   · subst h2; simp [h1]
   · simp [h1, h2]
theorem swp_inj (a b : Nat) : ∀ i j, swp a b i = swp a b j → i = j := fun i j h => by
 have := congrArg (swp a b) h
 rwa [swp_swp, swp_swp] at this
section
variable {P : Program} {st : St}
theorem SLe.swap (x y : Nat) (hx0 : x < 4294967296) (hy0 : y < 4294967296) : SLe P st ⟨st.n, tren (swp x y) st.t, hren (swp x y) st.h⟩ := by
 intro w0 Rd0 e a w hg
 let e' : Env := ⟨fun k => e.blk (swp x y k), fun k => e.sv (swp x y k), fun k => e.lent (swp x y k)⟩
 have hb : ∀ j, e'.blk (swp x y j) = e.blk j := fun j => by simp [e', swp_swp]
 have hsv : ∀ j, e'.sv (swp x y j) = e.sv j := fun j => by simp [e', swp_swp]
 have hl : ∀ j, e'.lent (swp x y j) = e.lent j := fun j => by simp [e', swp_swp]
 have hget' : ∀ k, hget (hren (swp x y) st.h) k = (hget st.h (swp x y k)).map (Ob.ren (swp x y)) := fun k => by
  have := hget_ren (swp x y) (swp_inj x y) st.h (swp x y k)
  rwa [swp_swp] at this
 have back : ∀ k ob, hget (hren (swp x y) st.h) k = some ob → ∃ ob0, hget st.h (swp x y k) = some ob0 ∧ ob = ob0.ren (swp x y) := fun k ob hk => by
  rw [hget'] at hk
  obtain ⟨ob0, h0, h1⟩ := Option.map_eq_some_iff.1 hk
  exact ⟨ob0, h0, h1.symm⟩
 have hR : ∀ b o u, RDx w0 Rd0 e st.h w b o u → RDx w0 Rd0 e' (hren (swp x y) st.h) w b o u := fun b o u ⟨h1, h2, h3⟩ => ⟨h1, h2, fun k ob hk hbk => by
  obtain ⟨ob0, h0, _⟩ := back k ob hk
  exact h3 _ ob0 h0 hbk⟩
 refine ⟨e', hg.n, hg.d, ⟨hg.sr.ext, hg.sr.good, fun k ob hk => ?_, fun k ob b hk hbk => ?_, fun k k' ob ob' b hk hk' hbk hbk' => ?_, fun k hk => ?_⟩, fun i => ?_⟩
 · obtain ⟨ob0, h0, rfl⟩ := back k ob hk
   have := ((hg.sr.ob _ ob0 h0).mono hR).ren (e' := e') (swp x y) hb hsv hl
   rwa [swp_swp] at this
 · obtain ⟨ob0, h0, rfl⟩ := back k ob hk
   exact hg.sr.base _ ob0 b h0 hbk
 · obtain ⟨ob0, h0, rfl⟩ := back k ob hk
   obtain ⟨ob1, h1, rfl⟩ := back k' ob' hk'
   exact swp_inj x y _ _ (hg.sr.inj _ _ _ _ _ h0 h1 hbk hbk')
 · have : swp x y k = k := by unfold swp; rw [if_neg (by omega), if_neg (by omega)]
   simp only [e', this]
   exact hg.sr.pin k hk
 · show VR _ _ (tget (tren (swp x y) st.t) i) _
   rw [tget_ren]
   exact ((hg.tr i).mono hR).ren rfl (swp x y) hb hsv
theorem SLe.own (i k : Nat) (hk0 : k < 4294967296) (t : TypeId) (sz : Nat) {sz0 : Nat} (hi : tget st.t i = .sl true sz0 []) (hin : i < st.n) : SLe P st ⟨st.n, (i, .ow k) :: tkill k st.t, (k, some (.arr t sz [] true)) :: hkill k st.h⟩ := by
 intro w0 Rd0 e a w hg
 have hv := hg.tr i
 rw [hi] at hv
 obtain ⟨ad, cap, us, hav, _, _, _, _, _, ht, _⟩ := hv.sl_inv
 have := ht rfl
 simp only [List.length_nil] at this hav
 subst this
 obtain ⟨hs1, hR1⟩ := hg.sr.kill k
 obtain ⟨hs2, hR2⟩ := hs1.newNil k t sz ad (hnom_kill k st.h) hk0
 refine ⟨_, hg.n, hg.d, hs2, fun j => ?_⟩
 simp only [tget]
 split
 · rename_i hj
   subst hj
   rw [hav]
   have := VR.ow (Rd := RDx w0 Rd0 (e.upd k none (.slice ad 0 0) 0) ((k, some (.arr t sz [] true)) :: hkill k st.h) w) (e := e.upd k none (.slice ad 0 0) 0) (k := k)
   rw [Env.upd_sv] at this
   exact this
 · exact ((((hg.tr.kill k).mono hR1).mono hR2).env k (tnom_kill k st.t) (fun _ hi => Env.upd_blk' hi) (fun _ hi => Env.upd_sv' hi)) j
end
end
noncomputable section
open Go Go.RowKit
section
variable {P : Program} {st : St} {d : Option Tmp} {ty t t2 : TypeId} {pos : String} {af : Array Edge} {gd : Option (Nat × Bool)} {x y : Operand} {k : IntKind} {a b : Int}
theorem RS.pickT {z : Operand} {c : AV} (hc : st.ev z = .v (.bool true)) (h : st.ev x = c) : RS P ⟨d, .pick z x y, ty, pos, af, gd⟩ st c := by
 have := RS.pick (P := P) (st := st) (d := d) (ty := ty) (pos := pos) (af := af) (gd := gd) z x y true hc
 simpa [h] using this
theorem RS.pickF {z : Operand} {c : AV} (hc : st.ev z = .v (.bool false)) (h : st.ev y = c) : RS P ⟨d, .pick z x y, ty, pos, af, gd⟩ st c := by
 have := RS.pick (P := P) (st := st) (d := d) (ty := ty) (pos := pos) (af := af) (gd := gd) z x y false hc
 simpa [h] using this
theorem beq_dec (a b : Int) : (a == b) = decide (a = b) := by
 by_cases h : a = b <;> simp [h]
theorem bne_dec (a b : Int) : (a != b) = decide (¬ a = b) := by
 by_cases h : a = b <;> simp [h]
theorem eqGuard_int (op : BinOp) (t : TypeId) (x y : Operand) (k k2 : IntKind) (a b : Int) (w : World) : (eqGuard op t x y (.int k a) (.int k2 b)).run P w = .ok () w := by
 cases op <;> simp [eqGuard]
theorem RS.bin {op : BinOp} {u v z : Value} (hx : st.ev x = .v u) (hy : st.ev y = .v v) (hg : ∀ w, (eqGuard op t x y u v).run P w = .ok () w) (hr : ∀ w, (binOp op t u v).run P w = .ok z w) : RS P ⟨d, .binOp op t x y t2, ty, pos, af, gd⟩ st (.v z) := fun w0 Rd0 e a w h => by
 have h1 := h.ev x
 have h2 := h.ev y
 rw [hx] at h1
 rw [hy] at h2
 refine ⟨z, .v, fun w' _ => ?_⟩
 simp only [execOp, h1.v_inv, h2.v_inv, Sem.run_bind, hg, hr, Result.andThen_ok, Sem.run_pure]
theorem RS.lss (hx : st.ev x = .v (.int k a)) (hy : st.ev y = .v (.int k b)) : RS P ⟨d, .binOp .lss t x y t2, ty, pos, af, gd⟩ st (.v (.bool (decide (a < b)))) :=
 RS.bin hx hy (eqGuard_int _ _ _ _ _ _ _ _) fun w => by simp [binOp_lss]
theorem RS.leq (hx : st.ev x = .v (.int k a)) (hy : st.ev y = .v (.int k b)) : RS P ⟨d, .binOp .leq t x y t2, ty, pos, af, gd⟩ st (.v (.bool (decide (a ≤ b)))) :=
 RS.bin hx hy (eqGuard_int _ _ _ _ _ _ _ _) fun w => by simp [binOp_leq]
theorem RS.gtr (hx : st.ev x = .v (.int k a)) (hy : st.ev y = .v (.int k b)) : RS P ⟨d, .binOp .gtr t x y t2, ty, pos, af, gd⟩ st (.v (.bool (decide (b < a)))) :=
 RS.bin hx hy (eqGuard_int _ _ _ _ _ _ _ _) fun w => by simp [binOp_gtr]
theorem RS.geq (hx : st.ev x = .v (.int k a)) (hy : st.ev y = .v (.int k b)) : RS P ⟨d, .binOp .geq t x y t2, ty, pos, af, gd⟩ st (.v (.bool (decide (b ≤ a)))) :=
 RS.bin hx hy (eqGuard_int _ _ _ _ _ _ _ _) fun w => by simp [binOp_geq]
theorem RS.eql (hx : st.ev x = .v (.int k a)) (hy : st.ev y = .v (.int k b)) : RS P ⟨d, .binOp .eql t x y t2, ty, pos, af, gd⟩ st (.v (.bool (decide (a = b)))) :=
 RS.bin hx hy (eqGuard_int _ _ _ _ _ _ _ _) fun w => by simp only [binOp_eql, Sem.run_pure, beq_dec]
theorem RS.neq (hx : st.ev x = .v (.int k a)) (hy : st.ev y = .v (.int k b)) : RS P ⟨d, .binOp .neq t x y t2, ty, pos, af, gd⟩ st (.v (.bool (decide (¬ a = b)))) :=
 RS.bin hx hy (eqGuard_int _ _ _ _ _ _ _ _) fun w => by simp only [binOp_neq, Sem.run_pure, bne_dec]
theorem RS.add (hx : st.ev x = .v (.int k a)) (hy : st.ev y = .v (.int k b)) : RS P ⟨d, .binOp .add t x y t2, ty, pos, af, gd⟩ st (.v (.int k (k.wrap (a + b)))) :=
 RS.bin hx hy (eqGuard_int _ _ _ _ _ _ _ _) fun w => by simp [binOp_add, Op.intArith]
theorem RS.sub (hx : st.ev x = .v (.int k a)) (hy : st.ev y = .v (.int k b)) : RS P ⟨d, .binOp .sub t x y t2, ty, pos, af, gd⟩ st (.v (.int k (k.wrap (a - b)))) :=
 RS.bin hx hy (eqGuard_int _ _ _ _ _ _ _ _) fun w => by simp [binOp_sub, Op.intArith]
theorem RS.mul (hx : st.ev x = .v (.int k a)) (hy : st.ev y = .v (.int k b)) : RS P ⟨d, .binOp .mul t x y t2, ty, pos, af, gd⟩ st (.v (.int k (k.wrap (a * b)))) :=
 RS.bin hx hy (eqGuard_int _ _ _ _ _ _ _ _) fun w => by simp [binOp_mul, Op.intArith]
theorem RS.rem (hx : st.ev x = .v (.int k a)) (hy : st.ev y = .v (.int k b)) (h0 : ¬ b = 0) : RS P ⟨d, .binOp .rem t x y t2, ty, pos, af, gd⟩ st (.v (.int k (a.tmod b))) :=
 RS.bin hx hy (eqGuard_int _ _ _ _ _ _ _ _) fun w => by simp [binOp_rem, Op.intDiv, h0]
theorem RS.quo (hx : st.ev x = .v (.int k a)) (hy : st.ev y = .v (.int k b)) (h0 : ¬ b = 0) : RS P ⟨d, .binOp .quo t x y t2, ty, pos, af, gd⟩ st (.v (.int k (k.wrap (a.tdiv b)))) :=
 RS.bin hx hy (eqGuard_int _ _ _ _ _ _ _ _) fun w => by simp [binOp_quo, Op.intDiv, h0]
theorem RS.not {b : Bool} (hx : st.ev x = .v (.bool b)) : RS P ⟨d, .unOp .not t x, ty, pos, af, gd⟩ st (.v (.bool (!b))) := fun w0 Rd0 e a w h => by
 have h1 := h.ev x
 rw [hx] at h1
 refine ⟨_, .v, fun w' _ => ?_⟩
 have e1 := h1.v_inv
 simp only [execOp, e1, unary_not, Sem.run_bind, Sem.run_pure, Result.andThen_ok]
theorem RS.eqlB {b c : Bool} (ht : P.underlying t = some .bool) (hx : st.ev x = .v (.bool b)) (hy : st.ev y = .v (.bool c)) : RS P ⟨d, .binOp .eql t x y t2, ty, pos, af, gd⟩ st (.v (.bool (b == c))) :=
 RS.bin hx hy (fun w => by simp [eqGuard]) fun w => run_eql_bool w t b c ht
theorem RS.min2 {ts : Array TypeId} {m n : Int} (hx : st.ev x = .v (.int k m)) (hy : st.ev y = .v (.int k n)) : RS P ⟨d, .call ⟨.builtin .min, #[x, y], ts⟩, ty, pos, af, gd⟩ st (.v (.int k (if n < m then n else m))) := fun w0 Rd0 e a w h => by
 have h1 := h.ev x
 have h2 := h.ev y
 rw [hx] at h1
 rw [hy] at h2
 refine ⟨_, .v, fun w' _ => ?_⟩
 have e1 := h1.v_inv
 have e2 := h2.v_inv
 have e3 : (#[x, y] : Array Operand).map a.eval = #[.int k m, .int k n] := by simp only [List.map_toArray, List.map_cons, List.map_nil, e1, e2]
 simp only [execOp, resolve, e3, Sem.run_bind, Sem.run_pure, Result.andThen_ok, invoke, builtin, Builtin.min_, List.foldlM_cons, List.foldlM_nil, Builtin.min2]
end
end
noncomputable section
open Go Go.RowKit
structure En where
 d : Option Nat
 c : AV
 os : Hp
 us : List Nat
 fr : Nat → Bool
def hin (k : Nat) (h : Hp) : Bool := h.any fun p => p.1 == k
theorem hget_hin {h : Hp} {k : Nat} (hk : hin k h = false) (h' : Hp) : hget (h ++ h') k = hget h' k := by
 rw [hget_append, if_neg (by unfold hin at hk; rw [hk]; simp)]
theorem hget_hin' {h : Hp} {k : Nat} (hk : hin k h = true) (h' : Hp) : hget (h ++ h') k = hget h k := by
 rw [hget_append, if_pos (by unfold hin at hk; rw [hk])]
def Ob.nom (p : Nat → Bool) : Ob → Bool
 | .box _ cs => AV.nomL p cs
 | .arr .. => true
 | .mp .. => true
 | .nr _ cs => AV.nomL p cs
def hnop (p : Nat → Bool) (h : Hp) : Bool := h.all fun q => !p q.1 && (match q.2 with | some ob => ob.nom p | none => true)
def hnop' (p : Nat → Bool) (h : Hp) : Bool := h.all fun q => (match q.2 with | some ob => ob.nom p | none => true)
def tnop (p : Nat → Bool) (t : List (Nat × AV)) : Bool := t.all fun q => q.2.nom p
theorem tnop_get {p : Nat → Bool} : ∀ {t : List (Nat × AV)}, tnop p t = true → ∀ i, (tget t i).nom p = true
 | [], _, i => rfl
 | (j, c) :: t, h, i => by
  simp only [tnop, List.all_cons, Bool.and_eq_true] at h
  simp only [tget]
  split
  · exact h.1
  · exact tnop_get (by simpa [tnop] using h.2) i
theorem hnop_get {p : Nat → Bool} : ∀ {h : Hp}, hnop' p h = true → ∀ k ob, hget h k = some ob → ob.nom p = true
 | [], _, k, ob, h => by simp [hget] at h
 | (j, o) :: t, h, k, ob, hk => by
  simp only [hnop', List.all_cons, Bool.and_eq_true] at h
  by_cases hkj : k = j
  · subst hkj
    rw [hget_same] at hk
    subst hk
    exact h.1
  · rw [hget_other hkj] at hk
    exact hnop_get (by simpa [hnop'] using h.2) k ob hk
def tput : Option Nat → AV → List (Nat × AV) → List (Nat × AV)
 | some d, c, t => (d, c) :: t
 | none, _, t => t
def finT (t : List (Nat × AV)) : List En → List (Nat × AV)
 | [] => t
 | u :: pl => finT (tput u.d u.c t) pl
def finH (h : Hp) : List En → Hp
 | [] => h
 | u :: pl => finH (u.os ++ h) pl
def ancM (acc : List Nat) (o : Oper) : Nat := o.after.toList.foldl (fun m e => if Region.binds .any e then m ||| (2 ^ e.on) ||| acc.getD e.on 0 else m) 0
def masks : List Nat → List Oper → List Nat
 | acc, [] => acc
 | acc, o :: l => masks (acc ++ [ancM acc o]) l
def aheadOf (l : List Oper) (j i : Nat) : Bool := ((masks [] l).getD j 0).testBit i
def Closed (l : List Oper) (S : Nat → Bool) : Prop := ∀ (j : Nat) o, l[j]? = some o → S j = true → ∀ e ∈ o.after, Region.binds .any e = true → S e.on = true
theorem ancM_bit {acc : List Nat} {o : Oper} {i : Nat} (h : (ancM acc o).testBit i = true) : ∃ e ∈ o.after, Region.binds .any e = true ∧ (e.on = i ∨ (acc.getD e.on 0).testBit i = true) := by
 have key : ∀ (es : List Edge) (m : Nat), (es.foldl (fun m e => if Region.binds .any e then m ||| (2 ^ e.on) ||| acc.getD e.on 0 else m) m).testBit i = true → m.testBit i = true ∨ ∃ e ∈ es, Region.binds .any e = true ∧ (e.on = i ∨ (acc.getD e.on 0).testBit i = true) := by
  intro es
  induction es with
  | nil => intro m h; exact .inl h
  | cons e es ih =>
   intro m h
   rw [List.foldl_cons] at h
   rcases ih _ h with h1 | ⟨e', he, hb⟩
   · split at h1
     · rename_i hb
       simp only [Nat.testBit_or, Bool.or_eq_true] at h1
       rcases h1 with (h1 | h1) | h1
       · exact .inl h1
       · rw [Nat.testBit_two_pow] at h1
         exact .inr ⟨e, by simp, hb, .inl (by simpa using h1)⟩
       · exact .inr ⟨e, by simp, hb, .inr h1⟩
     · exact .inl h1
   · exact .inr ⟨e', by simp [he], hb⟩
 rcases key _ _ h with h1 | ⟨e, he, hb⟩
 · simp at h1
 · exact ⟨e, by simpa using he, hb⟩
theorem aheadOf_closed {l : List Oper} {S : Nat → Bool} (hS : Closed l S) : ∀ (j i : Nat), aheadOf l j i = true → S j = true → S i = true := by
 have key : ∀ (l2 l1 : List Oper) (acc : List Nat), l = l1 ++ l2 → acc.length = l1.length → (∀ j i, (acc.getD j 0).testBit i = true → S j = true → S i = true) → ∀ j i, ((masks acc l2).getD j 0).testBit i = true → S j = true → S i = true := by
  intro l2
  induction l2 with
  | nil => intro l1 acc _ _ h; exact h
  | cons o l2 ih =>
   intro l1 acc hl hlen h
   refine ih (l1 ++ [o]) _ (by simp [hl]) (by simp [hlen]) fun j i hb hj => ?_
   by_cases hjl : j < acc.length
   · simp only [List.getD, List.getElem?_append_left hjl] at hb
     exact h j i hb hj
   · by_cases hje : j = acc.length
     · subst hje
       simp [List.getD] at hb
       obtain ⟨e, he, hbi, h2⟩ := ancM_bit hb
       have hlo : l[acc.length]? = some o := by rw [hl, hlen]; simp
       have hSe := hS _ o hlo hj e he hbi
       rcases h2 with rfl | h2
       · exact hSe
       · exact h _ i h2 hSe
     · have : (acc ++ [ancM acc o]).getD j 0 = 0 := by
        simp [List.getD, List.getElem?_eq_none (show (acc ++ [ancM acc o]).length ≤ j by simp; omega)]
       rw [this] at hb
       simp at hb
 exact fun j i => key l [] [] rfl rfl (fun j i h => by simp at h) j i
def freeS (l : List Oper) (j x : Nat) : Bool := (List.range l.length).all fun i => match l[i]? with
 | some o => o.dst != some x || Nat.beq i j || aheadOf l i j
 | none => true
structure Kn (l : List Oper) (st0 : St) (done : List En) (o : Oper) (u : En) (st : St) : Prop where
 n : st.n = st0.n
 t0 : ∀ x, (l.all fun o => o.dst != some x) = true → tget st.t x = tget st0.t x
 t1 : ∀ x, freeS l done.length x = true → tget st.t x = tget st0.t x
 ts : ∀ e ∈ o.after, Region.binds .any e = true → ∀ v d, done[e.on]? = some v → v.d = some d → tget st.t d = v.c
 h : ∀ k, u.us.contains k = true → hget st.h k = hget (finH st0.h done) k
 ft : ∀ x, (tget st.t x).nom u.fr = true
 fh : ∀ k ob, hget st.h k = some ob → ob.nom u.fr = true
 fk : ∀ k, u.fr k = true → hget st.h k = none
def DS (P : Program) (l : List Oper) (st0 : St) (done : List En) (o : Oper) (u : En) : Prop :=
 ∀ st, Kn l st0 done o u st → GS P l.toArray o st (fun s => s = ⟨st.n, tput u.d u.c st.t, u.os ++ st.h⟩)
def apartB (v u : En) : Bool :=
 v.os.all (fun p => !hin p.1 u.os && !u.us.contains p.1) && u.os.all (fun p => !v.us.contains p.1)
def pairB (l : List Oper) (i j : Nat) (v u : En) : Prop := apartB v u = true ∨ aheadOf l j i = true
def newB (l : List Oper) (i j : Nat) (v u : En) : Prop :=
 (v.c.nom u.fr = true ∧ hnop u.fr v.os = true) ∧ ((u.c.nom v.fr = true ∧ hnop v.fr u.os = true) ∨ aheadOf l j i = true)
def fitB (l : List Oper) (u : En) (j : Nat) : Nat → List En → Prop
 | _, [] => True
 | i, v :: done => pairB l i j v u ∧ newB l i j v u ∧ fitB l u j (i + 1) done
theorem fitB_get {l : List Oper} {u : En} {j : Nat} : ∀ {i0 : Nat} {done : List En}, fitB l u j i0 done → ∀ (i : Nat) v, done[i]? = some v → pairB l (i0 + i) j v u ∧ newB l (i0 + i) j v u
 | i0, [], _, i, v, h => by simp at h
 | i0, x :: done, hf, i, v, h => by
  cases i with
  | zero => simp at h; subst h; exact ⟨hf.1, hf.2.1⟩
  | succ i =>
   have := fitB_get hf.2.2 i v (by simpa using h)
   rw [show i0 + (i + 1) = i0 + 1 + i by omega]
   exact this
def dstsB : List Oper → Bool
 | [] => true
 | o :: l => (match o.dst with | some d => l.all fun p => p.dst != some d | none => true) && dstsB l
theorem dstsB_get : ∀ {l : List Oper}, dstsB l = true → ∀ (i j : Nat) o p d, l[i]? = some o → l[j]? = some p → o.dst = some d → p.dst = some d → i = j
 | [], _, i, j, o, p, d, h, _, _, _ => by simp at h
 | x :: l, hd, i, j, o, p, d, hi, hj, ho, hp => by
  simp only [dstsB, Bool.and_eq_true] at hd
  have key : ∀ (k : Nat) y, l[k]? = some y → x.dst = some d → y.dst ≠ some d := fun k y hk hx hy => by
   have h1 := hd.1
   simp only [hx] at h1
   have := List.all_eq_true.1 h1 y (List.mem_of_getElem? hk)
   simp [hy] at this
  cases i with
  | zero =>
   simp at hi; subst hi
   cases j with
   | zero => rfl
   | succ j => exact absurd hp (key j p (by simpa using hj) ho)
  | succ i =>
   cases j with
   | zero => simp at hj; subst hj; exact absurd ho (key i o (by simpa using hi) hp)
   | succ j => rw [dstsB_get hd.2 i j o p d (by simpa using hi) (by simpa using hj) ho hp]
structure Plan (P : Program) (l : List Oper) (st0 : St) (pl : List En) : Prop where
 len : pl.length = l.length
 step : ∀ (j : Nat) o u, l[j]? = some o → pl[j]? = some u → o.dst = u.d ∧ DS P l st0 (pl.take j) o u
 fit : ∀ (i j : Nat) v u, i < j → pl[i]? = some v → pl[j]? = some u → pairB l i j v u ∧ newB l i j v u
 new0 : ∀ (j : Nat) u, pl[j]? = some u → tnop u.fr st0.t = true ∧ hnop u.fr st0.h = true
 inj : dstsB l = true
 back : ∀ (j : Nat) o, l[j]? = some o → ∀ e ∈ o.after, Region.binds .any e = true → e.on < j
structure Inv (st0 : St) (pl : List En) (S : Nat → Bool) (st : St) : Prop where
 n : st.n = st0.n
 t0 : ∀ x, (∀ i u, pl[i]? = some u → S i = true → u.d ≠ some x) → tget st.t x = tget st0.t x
 ts : ∀ (i : Nat) u d, pl[i]? = some u → S i = true → u.d = some d → tget st.t d = u.c
 h0 : ∀ k, (∀ (i : Nat) u, pl[i]? = some u → S i = true → hin k u.os = false) → hget st.h k = hget st0.h k
 hs : ∀ k (i : Nat) u, pl[i]? = some u → S i = true → hin k u.os = true → (∀ (i' : Nat) u', i < i' → pl[i']? = some u' → S i' = true → hin k u'.os = false) → hget st.h k = hget u.os k
theorem hnop_names {p : Nat → Bool} : ∀ {h : Hp} {k : Nat}, hnop p h = true → p k = true → hin k h = false
 | [], k, _, _ => rfl
 | (j, o) :: h, k, hn, hk => by
  simp only [hnop, List.all_cons, Bool.and_eq_true] at hn
  simp only [hin, List.any_cons, Bool.or_eq_false_iff]
  refine ⟨?_, hnop_names (h := h) (by simpa [hnop] using hn.2) hk⟩
  have : p j = false := by simpa using hn.1.1
  simp
  rintro rfl
  rw [hk] at this; cases this
theorem hnop_obs {p : Nat → Bool} {h : Hp} (hn : hnop p h = true) {k : Nat} {ob : Ob} (hk : hget h k = some ob) : ob.nom p = true := by
 refine hnop_get (p := p) (h := h) ?_ k ob hk
 simp only [hnop, List.all_eq_true, Bool.and_eq_true] at hn
 simp only [hnop', List.all_eq_true]
 exact fun q hq => (hn q hq).2
theorem hget_hin_none : ∀ {h : Hp} {k : Nat}, hin k h = false → hget h k = none
 | [], _, _ => rfl
 | (j, o) :: h, k, hh => by
  simp only [hin, List.any_cons, Bool.or_eq_false_iff] at hh
  have : ¬ k = j := fun he => by have := hh.1; simp [he] at this
  simp only [hget, this, if_false]
  exact hget_hin_none hh.2
theorem last_of (p : Nat → Prop) : ∀ N, (∃ i, i < N ∧ p i) → ∃ i, i < N ∧ p i ∧ ∀ i', i < i' → i' < N → ¬ p i'
 | 0, ⟨i, h, _⟩ => by omega
 | N + 1, ⟨i, h, hp⟩ => by
  by_cases hN : p N
  · exact ⟨N, by omega, hN, fun i' h1 h2 => by omega⟩
  · obtain ⟨i, h1, h2, h3⟩ := last_of p N ⟨i, by
     rcases Nat.lt_or_ge i N with h' | h'
     · exact h'
     · have : i = N := by omega
       subst this; exact absurd hp hN, hp⟩
    refine ⟨i, by omega, h2, fun i' h4 h5 => ?_⟩
    by_cases hi : i' = N
    · subst hi; exact hN
    · exact h3 i' h4 (by omega)
theorem finH_none : ∀ (pl : List En) (h : Hp) (k : Nat), (∀ u ∈ pl, hin k u.os = false) → hget (finH h pl) k = hget h k
 | [], h, k, _ => rfl
 | u :: pl, h, k, hu => by rw [finH, finH_none pl _ k (fun v hv => hu v (by simp [hv])), hget_hin (hu u (by simp))]
theorem finH_last : ∀ (pl : List En) (h : Hp) (k i : Nat) (u : En), pl[i]? = some u → hin k u.os = true → (∀ (i' : Nat) u', i < i' → pl[i']? = some u' → hin k u'.os = false) → hget (finH h pl) k = hget u.os k
 | [], h, k, i, u, hi, _, _ => by simp at hi
 | v :: pl, h, k, 0, u, hi, hu, hl => by
  simp at hi; subst hi
  rw [finH, finH_none pl _ k (fun w hw => by
   obtain ⟨j, hj, rfl⟩ := List.getElem_of_mem hw
   exact hl (j + 1) _ (by omega) (by simp [List.getElem?_eq_getElem hj])), hget_hin' hu]
 | v :: pl, h, k, i + 1, u, hi, hu, hl => by
  rw [finH]
  exact finH_last pl _ k i u (by simpa using hi) hu fun i' u' h1 h2 => hl (i' + 1) u' (by omega) (by simpa using h2)
theorem tget_tput {d : Option Nat} {c : AV} {t : List (Nat × AV)} {x : Nat} : tget (tput d c t) x = if d = some x then c else tget t x := by
 cases d with
 | none => simp [tput]
 | some d =>
  simp only [tput, tget]
  by_cases h : x = d
  · subst h; simp
  · have : ¬ d = x := fun e => h e.symm
    simp [h, this]
theorem finT_none : ∀ (pl : List En) (t : List (Nat × AV)) (x : Nat), (∀ u ∈ pl, u.d ≠ some x) → tget (finT t pl) x = tget t x
 | [], t, x, _ => rfl
 | u :: pl, t, x, hu => by rw [finT, finT_none pl _ x (fun v hv => hu v (by simp [hv])), tget_tput, if_neg (hu u (by simp))]
theorem finT_last : ∀ (pl : List En) (t : List (Nat × AV)) (x i : Nat) (u : En), pl[i]? = some u → u.d = some x → (∀ (i' : Nat) u', i < i' → pl[i']? = some u' → u'.d ≠ some x) → tget (finT t pl) x = u.c
 | [], t, x, i, u, hi, _, _ => by simp at hi
 | v :: pl, t, x, 0, u, hi, hu, hl => by
  simp at hi; subst hi
  rw [finT, finT_none pl _ x (fun w hw => by
   obtain ⟨j, hj, rfl⟩ := List.getElem_of_mem hw
   exact hl (j + 1) _ (by omega) (by simp [List.getElem?_eq_getElem hj])), tget_tput, if_pos hu]
 | v :: pl, t, x, i + 1, u, hi, hu, hl => by
  rw [finT]
  exact finT_last pl _ x i u (by simpa using hi) hu fun i' u' h1 h2 => hl (i' + 1) u' (by omega) (by simpa using h2)
end
noncomputable section
open Go Go.RowKit
section
variable {P : Program} {l : List Oper} {st0 : St} {pl : List En} {S : Nat → Bool} {st : St}
theorem last_touch (hp : Plan P l st0 pl) (q : Nat → En → Prop) (h : ∃ i u, pl[i]? = some u ∧ q i u) : ∃ i u, pl[i]? = some u ∧ q i u ∧ ∀ i' u', i < i' → pl[i']? = some u' → ¬ q i' u' := by
 obtain ⟨i, u, hi, hq⟩ := h
 obtain ⟨i, h1, ⟨u, hu, hq⟩, h3⟩ := last_of (fun i => ∃ u, pl[i]? = some u ∧ q i u) pl.length ⟨i, (List.getElem?_eq_some_iff.1 hi).1, u, hi, hq⟩
 exact ⟨i, u, hu, hq, fun i' u' h4 h5 h6 => h3 i' h4 (List.getElem?_eq_some_iff.1 h5).1 ⟨u', h5, h6⟩⟩
theorem Inv.kn (hp : Plan P l st0 pl) (hi : Inv st0 pl S st) {j : Nat} {o : Oper} {u : En} (ho : l[j]? = some o) (hu : pl[j]? = some u) (hS : Closed l S) (hj : S j = false) (hr : ∀ e ∈ o.after, Region.binds .any e = true → S e.on = true) :
 Kn l st0 (pl.take j) o u st := by
 have hjl : j < pl.length := (List.getElem?_eq_some_iff.1 hu).1
 have htl : (pl.take j).length = j := by simp; omega
 -- what must come ahead is done
 have hS2 : Closed l (fun i => S i || i == j) := fun i oi hoi hsi e he hb => by
  by_cases hij : i = j
  · subst hij
    obtain rfl := Option.some.inj (ho.symm.trans hoi)
    simp [hr e he hb]
  · have : S i = true := by simpa [hij] using hsi
    simp [hS i oi hoi this e he hb]
 have hah : ∀ i, aheadOf l j i = true → i ≠ j → S i = true := fun i hb hij => by
  have := aheadOf_closed hS2 j i hb (by simp)
  simpa [hij] using this
 -- what is done does not wait for it
 have hbe : ∀ i, S i = true → aheadOf l i j = false := fun i hsi => by
  cases h : aheadOf l i j with
  | false => rfl
  | true => rw [aheadOf_closed hS i j h hsi] at hj; cases hj
 -- a name of its own
 have hnew : ∀ (i : Nat) v, pl[i]? = some v → S i = true → v.c.nom u.fr = true ∧ hnop u.fr v.os = true := fun i v hv hsi => by
  rcases Nat.lt_trichotomy i j with h | h | h
  · exact (hp.fit i j v u h hv hu).2.1
  · subst h; rw [hj] at hsi; cases hsi
  · rcases (hp.fit j i u v h hu hv).2.2 with h1 | h1
    · exact h1
    · rw [hbe i hsi] at h1; cases h1
 have hdst : ∀ (i : Nat) v, pl[i]? = some v → ∃ oi, l[i]? = some oi ∧ oi.dst = v.d := fun i v hv => by
  have hil : i < l.length := by rw [← hp.len]; exact (List.getElem?_eq_some_iff.1 hv).1
  exact ⟨l[i], List.getElem?_eq_getElem hil, (hp.step i _ v (List.getElem?_eq_getElem hil) hv).1⟩
 have hnone : ∀ k, u.fr k = true → hget st.h k = none := fun k hk => by
  rw [hi.h0 k fun i v hv hsi => hnop_names (hnew i v hv hsi).2 hk]
  exact hget_hin_none (hnop_names (hp.new0 j u hu).2 hk)
 refine ⟨hi.n, fun x hx => ?_, fun x hx => ?_, fun e he hb v d hv hd => ?_, fun k hk => ?_, fun x => ?_, fun k ob hk => ?_, hnone⟩
 · refine hi.t0 x fun i v hv _ hd => ?_
   obtain ⟨oi, hoi, hod⟩ := hdst i v hv
   have := List.all_eq_true.1 hx oi (List.mem_of_getElem? hoi)
   rw [hod, hd] at this
   simp at this
 · rw [htl] at hx
   refine hi.t0 x fun i v hv hsi hd => ?_
   obtain ⟨oi, hoi, hod⟩ := hdst i v hv
   have hil : i < l.length := (List.getElem?_eq_some_iff.1 hoi).1
   have := List.all_eq_true.1 hx i (by simpa using hil)
   simp only [hoi, hod, hd, hbe i hsi, Bool.or_false, Bool.or_eq_true] at this
   rcases this with h | h
   · simp at h
   · have : i = j := by simpa using h
     subst this
     rw [hj] at hsi; cases hsi
 · have hlt := hp.back j o ho e he hb
   rw [List.getElem?_take, if_pos hlt] at hv
   exact hi.ts e.on v d hv (hr e he hb) hd
 · -- the objects that it looks at
   have hst : ∀ (i : Nat) v, pl[i]? = some v → hin k v.os = true → (i < j → S i = true) ∧ (S i = true → i < j) := fun i v hv hkv => by
    obtain ⟨p, hpm, hpk⟩ := List.any_eq_true.1 hkv
    have hpk : p.1 = k := by simpa using hpk
    refine ⟨fun hlt => ?_, fun hsi => ?_⟩
    · rcases (hp.fit i j v u hlt hv hu).1 with h1 | h1
      · simp only [apartB, Bool.and_eq_true] at h1
        have := List.all_eq_true.1 h1.1 p hpm
        simp only [Bool.and_eq_true, hpk, hk] at this
        simp at this
      · exact hah i h1 (by omega)
    · rcases Nat.lt_trichotomy i j with h | h | h
      · exact h
      · subst h; rw [hj] at hsi; cases hsi
      · rcases (hp.fit j i u v h hu hv).1 with h1 | h1
        · simp only [apartB, Bool.and_eq_true] at h1
          have := List.all_eq_true.1 h1.2 p hpm
          simp only [hpk, hk] at this
          simp at this
        · rw [hbe i hsi] at h1; cases h1
   by_cases hex : ∃ i v, pl[i]? = some v ∧ (i < j ∧ hin k v.os = true)
   · obtain ⟨i, v, hv, ⟨hij, hkv⟩, hlast⟩ := last_touch hp (fun i v => i < j ∧ hin k v.os = true) hex
     rw [hi.hs k i v hv ((hst i v hv hkv).1 hij) hkv fun i' u' h1 h2 h3 => ?_]
     · refine (finH_last _ _ k i v (by rw [List.getElem?_take, if_pos hij]; exact hv) hkv fun i' u' h1 h2 => ?_).symm
       rw [List.getElem?_take] at h2
       split at h2
       · rename_i hlt
         cases hh : hin k u'.os with
         | false => rfl
         | true => exact absurd ⟨hlt, hh⟩ (hlast i' u' h1 h2)
       · cases h2
     · cases hh : hin k u'.os with
       | false => rfl
       | true => exact absurd ⟨(hst i' u' h2 hh).2 h3, hh⟩ (hlast i' u' h1 h2)
   · rw [hi.h0 k fun i v hv hsi => ?_, finH_none _ _ k fun v hv => ?_]
     · obtain ⟨i, hi', rfl⟩ := List.getElem_of_mem hv
       have hij : i < j := by rw [htl] at hi'; exact hi'
       have hvv : pl[i]? = some ((pl.take j)[i]) := by
        rw [List.getElem_take]
        exact List.getElem?_eq_getElem (by omega)
       cases hh : hin k ((pl.take j)[i]).os with
       | false => rfl
       | true => exact absurd ⟨i, _, hvv, hij, hh⟩ hex
     · cases hh : hin k v.os with
       | false => rfl
       | true => exact absurd ⟨i, v, hv, (hst i v hv hh).2 hsi, hh⟩ hex
 · by_cases hex : ∃ (i : Nat) (v : En), pl[i]? = some v ∧ S i = true ∧ v.d = some x
   · obtain ⟨i, v, hv, hsi, hd⟩ := hex
     rw [hi.ts i v x hv hsi hd]
     exact (hnew i v hv hsi).1
   · rw [hi.t0 x fun i v hv hsi hd => hex ⟨i, v, hv, hsi, hd⟩]
     exact tnop_get (hp.new0 j u hu).1 x
 · by_cases hex : ∃ i v, pl[i]? = some v ∧ (S i = true ∧ hin k v.os = true)
   · obtain ⟨i, v, hv, ⟨hsi, hkv⟩, hlast⟩ := last_touch hp (fun i v => S i = true ∧ hin k v.os = true) hex
     rw [hi.hs k i v hv hsi hkv fun i' u' h1 h2 h3 => by
      cases hh : hin k u'.os with
      | false => rfl
      | true => exact absurd ⟨h3, hh⟩ (hlast i' u' h1 h2)] at hk
     exact hnop_obs (hnew i v hv hsi).2 hk
   · rw [hi.h0 k fun i v hv hsi => by
      cases hh : hin k v.os with
      | false => rfl
      | true => exact absurd ⟨i, v, hv, hsi, hh⟩ hex] at hk
     exact hnop_obs (hp.new0 j u hu).2 hk
theorem Inv.step (hp : Plan P l st0 pl) (hi : Inv st0 pl S st) {j : Nat} {o : Oper} {u : En} (ho : l[j]? = some o) (hu : pl[j]? = some u) (hS : Closed l S) (hj : S j = false) :
 Inv st0 pl (fun i => S i || i == j) ⟨st.n, tput u.d u.c st.t, u.os ++ st.h⟩ := by
 have hbe : ∀ i, S i = true → aheadOf l i j = false := fun i hsi => by
  cases h : aheadOf l i j with
  | false => rfl
  | true => rw [aheadOf_closed hS i j h hsi] at hj; cases hj
 have hor : ∀ i, S i = true → (S i || i == j) = true := fun i h => by simp [h]
 have hdst : ∀ (i : Nat) v, pl[i]? = some v → ∃ oi, l[i]? = some oi ∧ oi.dst = v.d := fun i v hv => by
  have hil : i < l.length := by rw [← hp.len]; exact (List.getElem?_eq_some_iff.1 hv).1
  exact ⟨l[i], List.getElem?_eq_getElem hil, (hp.step i _ v (List.getElem?_eq_getElem hil) hv).1⟩
 refine ⟨hi.n, fun x hx => ?_, fun i v d hv hsi hd => ?_, fun k hk => ?_, fun k i v hv hsi hkv hlast => ?_⟩
 · simp only [tget_tput]
   rw [if_neg (hx j u hu (by simp))]
   exact hi.t0 x fun i v hv hsi => hx i v hv (hor i hsi)
 · simp only [tget_tput]
   by_cases hij : i = j
   · subst hij
     obtain rfl := Option.some.inj (hu.symm.trans hv)
     rw [if_pos hd]
   · have hne : u.d ≠ some d := fun hud => by
      obtain ⟨oi, h1, h2⟩ := hdst i v hv
      obtain ⟨oj, h3, h4⟩ := hdst j u hu
      exact hij (dstsB_get hp.inj i j oi oj d h1 h3 (h2.trans hd) (h4.trans hud))
     rw [if_neg hne]
     exact hi.ts i v d hv (by simpa [hij] using hsi) hd
 · show hget (u.os ++ st.h) k = _
   rw [hget_hin (hk j u hu (by simp))]
   exact hi.h0 k fun i v hv hsi => hk i v hv (hor i hsi)
 · show hget (u.os ++ st.h) k = _
   by_cases hij : i = j
   · subst hij
     obtain rfl := Option.some.inj (hu.symm.trans hv)
     exact hget_hin' hkv _
   · have hsi' : S i = true := by simpa [hij] using hsi
     have hku : hin k u.os = false := by
      cases hh : hin k u.os with
      | false => rfl
      | true =>
       obtain ⟨p, hpm, hpk⟩ := List.any_eq_true.1 hkv
       have hpk : p.1 = k := by simpa using hpk
       obtain ⟨q, hqm, hqk⟩ := List.any_eq_true.1 hh
       have hqk : q.1 = k := by simpa using hqk
       rcases Nat.lt_trichotomy i j with h | h | h
       · have := hlast j u h hu (by simp)
         rw [hh] at this; cases this
       · exact absurd h hij
       · rcases (hp.fit j i u v h hu hv).1 with h1 | h1
         · simp only [apartB, Bool.and_eq_true] at h1
           have := List.all_eq_true.1 h1.1 q hqm
           simp only [Bool.and_eq_true, hqk, hkv] at this
           simp at this
         · rw [hbe i hsi'] at h1; cases h1
     rw [hget_hin hku]
     exact hi.hs k i v hv hsi' hkv fun i' u' h1 h2 h3 => hlast i' u' h1 h2 (hor i' h3)
theorem Inv.fin (hp : Plan P l st0 pl) (hi : Inv st0 pl S st) (hall : ∀ j, j < l.length → S j = true) : (∀ x, tget (finT st0.t pl) x = tget st.t x) ∧ ∀ k, hget (finH st0.h pl) k = hget st.h k := by
 have hlt : ∀ (i : Nat) v, pl[i]? = some v → S i = true := fun i v hv => hall i (by rw [← hp.len]; exact (List.getElem?_eq_some_iff.1 hv).1)
 refine ⟨fun x => ?_, fun k => ?_⟩
 · by_cases hex : ∃ (i : Nat) (v : En), pl[i]? = some v ∧ v.d = some x
   · obtain ⟨i, v, hv, hd, hlast⟩ := last_touch hp (fun i v => v.d = some x) hex
     rw [finT_last pl _ x i v hv hd hlast, hi.ts i v x hv (hlt i v hv) hd]
   · rw [finT_none pl _ x fun v hv hd => by
      obtain ⟨i, hi', rfl⟩ := List.getElem_of_mem hv
      exact hex ⟨i, _, List.getElem?_eq_getElem hi', hd⟩, hi.t0 x fun i v hv _ hd => hex ⟨i, v, hv, hd⟩]
 · by_cases hex : ∃ (i : Nat) (v : En), pl[i]? = some v ∧ hin k v.os = true
   · obtain ⟨i, v, hv, hd, hlast⟩ := last_touch hp (fun i v => hin k v.os = true) hex
     have hl' : ∀ (i' : Nat) u', i < i' → pl[i']? = some u' → hin k u'.os = false := fun i' u' h1 h2 => by
      cases hh : hin k u'.os with
      | false => rfl
      | true => exact absurd hh (hlast i' u' h1 h2)
     rw [finH_last pl _ k i v hv hd hl', hi.hs k i v hv (hlt i v hv) hd fun i' u' h1 h2 _ => hl' i' u' h1 h2]
   · have hno : ∀ (i : Nat) v, pl[i]? = some v → hin k v.os = false := fun i v hv => by
      cases hh : hin k v.os with
      | false => rfl
      | true => exact absurd ⟨i, v, hv, hh⟩ hex
     rw [finH_none pl _ k fun v hv => by
      obtain ⟨i, hi', rfl⟩ := List.getElem_of_mem hv
      exact hno i _ (List.getElem?_eq_getElem hi'), hi.h0 k fun i v hv _ => hno i v hv]
theorem wpOp_of_GS {o : Oper} {j : Nat} {K : St → Prop} (ho : l[j]? = some o) (h : GS P l.toArray o st K) {w0 : Bs} {Rd0 : Nat → Nat → Value → Prop} {e : Env} {a : Act} {w : World} {next : Act → World → Prop} {Q : Exit → Act → World → Prop}
 (hga : Ga w0 Rd0 e st a w) (hn : ∀ st', K st' → ∀ e' a' w', Ga w0 Rd0 e' st' a' w' → next a' w') : wpOp P l.toArray Q j next a w := by
 have := h w0 Rd0 e a w next Q hga hn
 unfold wpOp
 have e1 : l.toArray[j]? = some o := by simpa using ho
 rw [e1]
 simp only
 split
 · rename_i hw; rw [if_pos hw] at this; exact .inl this
 · rename_i hw; rw [if_neg hw] at this; exact this
theorem Plan.any (hp : Plan P l st0 pl) {w0 : Bs} {Rd0 : Nat → Nat → Value → Prop} {Q : Exit → Act → World → Prop} (hQ : ∀ e a w, Ga w0 Rd0 e ⟨st0.n, finT st0.t pl, finH st0.h pl⟩ a w → Q .normal a w) :
 ∀ (fuel : Nat) (listed : Array Bool) (st : St) (e : Env) (a : Act) (w : World), listed.size = l.length → Closed l (fun i => listed.getD i false) → (∀ m, m = (listed.toList.filter (· == false)).length → m = fuel) → Inv st0 pl (fun i => listed.getD i false) st → Ga w0 Rd0 e st a w →
 wpAny P .any l.toArray Q fuel listed a w := by
 intro fuel
 induction fuel with
 | zero =>
  intro listed st e a w hsz hcl hm hinv hga
  have hfull : ∀ j, j < l.length → listed.getD j false = true := fun j hj => by
   have h0 : (listed.toList.filter (· == false)).length = 0 := hm _ rfl
   have h1 : listed.toList.filter (· == false) = [] := List.eq_nil_of_length_eq_zero h0
   have hj' : j < listed.size := by omega
   have : listed[j] ∈ listed.toList := by simp
   have h2 := List.filter_eq_nil_iff.1 h1 _ this
   have : listed[j] = true := by simpa using h2
   simp [hj', this]
  have hf := hinv.fin hp hfull
  refine ⟨?_, ?_⟩
  · rw [List.eq_nil_iff_forall_not_mem]
    intro j hj
    obtain ⟨h1, o, ho, _⟩ := mem_ready.1 hj
    have hjl : j < l.length := by
     have := (Array.getElem?_eq_some_iff.1 ho).1
     simp at this; exact this
    have h2 := hfull j hjl
    rw [getD_both h1] at h2; cases h2
  · obtain ⟨e', hg⟩ := (SLe.same (P := P) (n := st0.n) hf.1 hf.2) w0 Rd0 e a w (by have := hga; rw [← hinv.n]; exact this)
    exact hQ e' a w hg
 | succ fuel ih =>
  intro listed st e a w hsz hcl hm hinv hga
  have hnotall : ∃ j, j < l.length ∧ listed.getD j false = false := by
   have h1 : (listed.toList.filter (· == false)).length = fuel + 1 := hm _ rfl
   have h2 : listed.toList.filter (· == false) ≠ [] := fun h => by rw [h] at h1; simp at h1
   obtain ⟨b, hb⟩ := List.exists_mem_of_ne_nil _ h2
   obtain ⟨hb1, hb2⟩ := List.mem_filter.1 hb
   obtain ⟨j, hj, hjb⟩ := List.getElem_of_mem hb1
   refine ⟨j, by rw [← hsz]; simp at hj; exact hj, ?_⟩
   have hj' : j < listed.size := by simp at hj; exact hj
   have : listed[j] = b := by simpa using hjb
   have hbf : b = false := by simpa using hb2
   simp [hj', this, hbf]
  refine ⟨fun hnil => ?_, fun j hj => ?_⟩
  · -- something is ready: the first that is not done
    exfalso
    obtain ⟨j, hj1, hj2⟩ := hnotall
    have : ∀ j, j < l.length → listed.getD j false = false → False := by
     intro j
     induction j using Nat.strongRecOn with
     | _ j ihj =>
      intro h1 h2
      have ho : l[j]? = some l[j] := List.getElem?_eq_getElem h1
      by_cases hr : ∀ e ∈ (l[j]).after, Region.binds .any e = true → listed.getD e.on false = true
      · have : j ∈ Region.ready .any l.toArray listed := mem_ready.2 ⟨getD_in (by omega) h2, l[j], by simp, hr⟩
        rw [hnil] at this; cases this
      · simp only [Classical.not_forall] at hr
        obtain ⟨e, he, hb, hne⟩ := hr
        have hlt := hp.back j _ ho e he hb
        exact ihj e.on hlt (by omega) (by simpa using hne)
    exact this j hj1 hj2
  · obtain ⟨h1, o, ho, hr⟩ := mem_ready.1 hj
    have ho' : l[j]? = some o := by simpa using ho
    have hjl : j < l.length := (List.getElem?_eq_some_iff.1 ho').1
    have hjp : j < pl.length := by rw [hp.len]; exact hjl
    have hu : pl[j]? = some pl[j] := List.getElem?_eq_getElem hjp
    have hjf : listed.getD j false = false := getD_both h1
    have hkn := hinv.kn hp ho' hu hcl hjf hr
    refine wpOp_of_GS ho' ((hp.step j o _ ho' hu).2 st hkn) hga fun st' hst' e' a' w' hg' => ?_
    subst hst'
    have hS : (fun i => (listed.setIfInBounds j true).getD i false) = fun i => listed.getD i false || i == j := by
     funext i
     by_cases hij : i = j
     · subst hij
       simp [Array.getD_eq_getD_getElem?, show i < listed.size by omega]
     · have h2 : ¬ j = i := fun h => hij h.symm
       simp [Array.getD_eq_getD_getElem?, Array.getElem?_setIfInBounds, h2, hij]
    refine ih _ _ e' a' w' (by simpa using hsz) ?_ ?_ ?_ hg'
    · rw [hS]
      intro i oi hoi hsi ed hed hb
      by_cases hij : i = j
      · subst hij
        obtain rfl := Option.some.inj (ho'.symm.trans hoi)
        simp [hr ed hed hb]
      · have hsi' : listed.getD i false = true := by simpa [hij] using hsi
        have := hcl i oi hoi hsi' ed hed hb
        simp [this]
    · intro m hmm
      have h2 : (listed.toList.filter (· == false)).length = fuel + 1 := hm _ rfl
      have h3 : ∀ (L : List Bool) (j : Nat), L[j]? = some false → ((L.set j true).filter (· == false)).length + 1 = (L.filter (· == false)).length := by
       intro L
       induction L with
       | nil => intro j h; simp at h
       | cons b L ihL =>
        intro j h
        cases j with
        | zero => simp at h; subst h; simp
        | succ j =>
         have := ihL j (by simpa using h)
         cases b <;> simp_all <;> omega
      have h4 := h3 listed.toList j (by
       have hlt : j < listed.size := by omega
       have : listed[j] = false := by simpa [hlt] using hjf
       simp [hlt, this])
      rw [Array.toList_setIfInBounds] at hmm
      omega
    · rw [hS]
      exact hinv.step hp ho' hu hcl hjf
theorem AC.plan {t : Bool} {id : Nat} {Post : Exit → St → Prop} (hm : P.follows .mixedOrders = true) (hp : Plan P l st0 pl) (h : Post .normal ⟨st0.n, finT st0.t pl, finH st0.h pl⟩) : AC t P (.region id l.toArray true) st0 Post := by
 intro r w0 Rd0 e a w Q hr hga hn
 refine wpIn_region_any hm (wpAnyIn_weak (fun x a' w' hh => ?_) _ _ _ _ (wpAny_in (r := r) (m := w0.df.length) (l0 := dstsL l) (a0 := a)
  (Q := fun x a' w' => x = .normal ∧ a'.defers.length ≤ w0.df.length ∧ ∃ e', Ga w0 Rd0 e' ⟨st0.n, finT st0.t pl, finH st0.h pl⟩ a' w') (fun x a' w' hh => ⟨hh.1, hh.2.1⟩)
  (fun i o ho d hd => dstsL_mem hd (l := l) (List.mem_of_getElem? (by simpa using ho))) _ _ a _ (by rw [hga.d]; exact Nat.le_refl _) (Kp.refl _ _)
  (hp.any (w0 := w0) (Rd0 := Rd0) (fun e' a' w' hg => ⟨rfl, by rw [hg.d]; exact Nat.le_refl _, e', hg⟩) _ _ st0 e a _ (by simp) ?_ ?_ ?_ (hga.later ((Ext.refl w).drewN 1)))))
 · obtain ⟨⟨rfl, _, e', hg⟩, hk⟩ := hh
   exact hn .normal _ h w0 Rd0 Bk.refl e' a' w' hg (by simpa [wrL] using hk)
 · intro j o ho hs
   have hs : (Array.replicate l.toArray.size false).getD j false = true := hs
   rw [getD_replicate_false] at hs; cases hs
 · intro m hm'
   rw [hm']
   simp
 · exact ⟨rfl, fun x _ => rfl, fun i u d _ hs => (by
    have hs : (Array.replicate l.toArray.size false).getD i false = true := hs
    rw [getD_replicate_false] at hs; cases hs), fun k _ => rfl, fun k i u _ hs => (by
    have hs : (Array.replicate l.toArray.size false).getD i false = true := hs
    rw [getD_replicate_false] at hs; cases hs)⟩
end
end
end Go.Proofs.YtpccioglcgobkaaGreatDoor
