/- Maps; a slice against nil; more arithmetic. -/
import Derived.Test.YtggnolfcgaglfaaSymKy
import Derived.Carry
import Derived.Lib.SliceRun
set_option linter.unusedVariables false
set_option linter.unusedSimpArgs false
namespace Go.Proofs.Ytggnolfcgaglfaa
open Go Go.RowKit MapKept

open Classical in
noncomputable def alook : List (Value × AV) → Value → Option AV
  | [], _ => none
  | (k, c) :: es, x => if k = x then some c else alook es x
open Classical in
noncomputable def aput : List (Value × AV) → Value → AV → List (Value × AV)
  | [], x, v => [(x, v)]
  | (k, c) :: es, x, v => if k = x then (k, v) :: es else (k, c) :: aput es x v
theorem alook_none : ∀ {es : List (Value × AV)} {x : Value}, (∀ p ∈ es, p.1 ≠ x) → alook es x = none
  | [], _, _ => rfl
  | (k, c) :: es, x, h => by
    rw [alook, if_neg (h (k, c) (by simp))]
    exact alook_none fun p hp => h p (by simp [hp])
theorem alook_at : ∀ {es : List (Value × AV)} {x : Value} {j : Nat} {c : AV}, es[j]? = some (x, c) → (∀ (i : Nat) p, i < j → es[i]? = some p → p.1 ≠ x) → alook es x = some c
  | [], _, _, _, h, _ => by simp at h
  | (k, c') :: es, x, j, c, h, hl => by
    cases j with
    | zero => simp at h; rw [alook, if_pos h.1, h.2]
    | succ j =>
      rw [alook, if_neg (hl 0 (k, c') (by omega) rfl)]
      exact alook_at (j := j) (by simpa using h) fun i p hi hp => hl (i + 1) p (by omega) (by simpa using hp)
theorem aput_none : ∀ {es : List (Value × AV)} {x : Value} {v : AV}, (∀ p ∈ es, p.1 ≠ x) → aput es x v = es ++ [(x, v)]
  | [], _, _, _ => rfl
  | (k, c) :: es, x, v, h => by
    rw [aput, if_neg (h (k, c) (by simp)), aput_none fun p hp => h p (by simp [hp])]
    rfl
theorem aput_at : ∀ {es : List (Value × AV)} {x : Value} {j : Nat} {c v : AV}, es[j]? = some (x, c) → (∀ (i : Nat) p, i < j → es[i]? = some p → p.1 ≠ x) → aput es x v = es.set j (x, v)
  | [], _, _, _, _, h, _ => by simp at h
  | (k, c') :: es, x, j, c, v, h, hl => by
    cases j with
    | zero => simp at h; rw [aput, if_pos h.1, h.1]; rfl
    | succ j =>
      rw [aput, if_neg (hl 0 (k, c') (by omega) rfl), aput_at (j := j) (c := c) (by simpa using h) fun i p hi hp => hl (i + 1) p (by omega) (by simpa using hp)]
      rfl

/-- what a map's type says: its keys' kind, its values' zero -/
def mapA (P : Program) (t : TypeId) : Option (TypeDesc × Value) :=
  match P.underlying t with
  | some (.map k e) => match keyA P k, P.info? e with
    | some d, some i => match i.zero with
      | some z => some (d, z)
      | none => none
    | _, _ => none
  | _ => none
theorem mapA_parts {P : Program} {t : TypeId} {d : TypeDesc} {z : Value} (h : mapA P t = some (d, z)) : ∃ k e i, P.underlying t = some (.map k e) ∧ KeyT P k d ∧ P.info? e = some i ∧ i.zero = some z := by
  unfold mapA at h
  split at h
  · rename_i k e h1
    split at h
    · rename_i d' i h2 h3
      split at h
      · rename_i z' h4
        simp only [Option.some.injEq, Prod.mk.injEq] at h
        obtain ⟨rfl, rfl⟩ := h
        exact ⟨k, e, i, h1, keyA_ok h2, h3, h4⟩
      · cases h
    · cases h
  · cases h
def zvA : Value → AV
  | .agg cs => .ag (cs.toList.map cvA)
  | x => cvA x
theorem zvA_ok {Rd : Nat → Nat → Value → Prop} {E : Option Env} (x : Value) : VR Rd E (zvA x) x := by
  unfold zvA
  split
  · rename_i cs
    have h := cvA_list (Rd := Rd) (E := E) cs.toList
    have := VR.ag (Rd := Rd) (E := E) cs.toList h.1 h.2
    simpa using this
  · exact cvA_ok x

/-- what the entries say of a key -/
theorem MR.find {P : Program} {Rd : Nat → Nat → Value → Prop} {d : TypeDesc} {es : List (Value × AV)} {arr : Array MapEntry} {clock : Nat} (h : MR Rd d es arr clock) {key : Value} (hk : KeyD d key) {kt : TypeId} (hT : KeyT P kt d) :
    ((∀ w : World, (Instr.findKey kt key arr.toList).run P w = .ok none w) ∧ (∀ x ∈ arr.toList, x.key ≠ key) ∧ alook es key = none ∧ ∀ v, aput es key v = es ++ [(key, v)]) ∨
    ∃ j m c, (∀ w : World, (Instr.findKey kt key arr.toList).run P w = .ok (some (j, m.val)) w) ∧ arr[j]? = some m ∧ m.key = key ∧ alook es key = some c ∧ VR Rd none c m.val ∧ es[j]? = some (key, c) ∧ ∀ v, aput es key v = es.set j (key, v) := by
  have hkeys : ∀ (j : Nat) p, es[j]? = some p → ∃ m, arr[j]? = some m ∧ m.key = p.1 := fun j p hp => by
    have hj : j < arr.size := by rw [h.len]; exact (List.getElem?_eq_some_iff.1 hp).1
    exact ⟨arr[j], Array.getElem?_eq_getElem hj, (h.key j p _ hp (Array.getElem?_eq_getElem hj)).1⟩
  rcases hT.fnd key arr.toList hk h.isk with ⟨h1, h2⟩ | ⟨j, m, h1, h2, h3⟩
  · have hno : ∀ p ∈ es, p.1 ≠ key := fun p hp hpk => by
      obtain ⟨j, hj, rfl⟩ := List.getElem_of_mem hp
      obtain ⟨m, hm, hmk⟩ := hkeys j _ (List.getElem?_eq_getElem hj)
      exact h2 m (Array.mem_toList_iff.2 (Array.mem_of_getElem? hm)) (hmk.trans hpk)
    exact .inl ⟨h1, h2, alook_none hno, fun v => aput_none hno⟩
  · have hm : arr[j]? = some m := by simpa using h2
    have hj : j < es.length := by rw [← h.len]; exact (Array.getElem?_eq_some_iff.1 hm).1
    have he := h.key j _ m (List.getElem?_eq_getElem hj) hm
    have hfst : es[j].1 = key := he.1.symm.trans h3
    have hep : es[j]? = some (key, es[j].2) := by rw [List.getElem?_eq_getElem hj, ← hfst]
    have hfirst : ∀ (i : Nat) p, i < j → es[i]? = some p → p.1 ≠ key := fun i p hij hp hpk => by
      obtain ⟨m', hm', hmk'⟩ := hkeys i p hp
      have hnd := h.stp.2.2
      have hi' : i < arr.toList.length := by have := (Array.getElem?_eq_some_iff.1 hm').1; simpa using this
      have hj' : j < arr.toList.length := by have := (Array.getElem?_eq_some_iff.1 hm).1; simpa using this
      have hpw := List.pairwise_iff_getElem.1 ((stamped_iff arr clock).1 h.stp).2.2 i j hi' hj' hij
      have e1 : arr.toList[i] = m' := by
        have := (Array.getElem?_eq_some_iff.1 hm').2; simpa using this
      have e2 : arr.toList[j] = m := by
        have := (Array.getElem?_eq_some_iff.1 hm).2; simpa using this
      rw [e1, e2] at hpw
      exact hpw (by rw [hmk', hpk, h3])
    refine .inr ⟨j, m, es[j].2, h1, hm, h3, alook_at hep hfirst, he.2, hep, fun v => aput_at hep hfirst⟩

section
variable {P : Program} {st : St} {d : Nat} {dd : Option Nat} {ty : TypeId} {pos : String} {af : Array Edge} {gd : Option (Nat × Bool)} {K : St → Prop}

theorem Ga.mapAt {w0 : Bs} {Rd0 : Nat → Nat → Value → Prop} {e : Env} {a : Act} {w : World} (h : Ga w0 Rd0 e st a w) {x : Operand} {k : Nat} {td : TypeDesc} {es : List (Value × AV)} (hx : st.ev x = .mp k) (hk : hget st.h k = some (.mp td es)) :
    ∃ b arr clock, a.eval x = .map (some b) ∧ e.blk k = some b ∧ e.lent k = 0 ∧ w.heap[b]? = some (.map arr clock) ∧ MR (RDx w0 Rd0 e st.h w) td es arr clock := by
  obtain ⟨h0, b, arr, clock, h1, h2, h3⟩ := h.sr.ob _ _ hk
  have hv := h.ev x
  rw [hx] at hv
  generalize a.eval x = u at hv
  cases hv with
  | mp hb =>
    obtain rfl := Option.some.inj (hb.symm.trans h1)
    exact ⟨_, arr, clock, rfl, h1, h0, h2, h3⟩

/-- how many entries -/
theorem RS.lenM {t : TypeId} {x : Operand} {ts : Array TypeId} {k : Nat} {td td2 : TypeDesc} {z : Value} {es : List (Value × AV)} (hts : ts[0]? = some t) (ht : mapA P t = some (td, z)) (hx : st.ev x = .mp k) (hk : hget st.h k = some (.mp td2 es)) :
    RS P ⟨dd, .call ⟨.builtin .len, #[x], ts⟩, ty, pos, af, gd⟩ st (.v (.int .i64 es.length)) := fun w0 Rd0 e a w h => by
  obtain ⟨kt, et, i, h1, h2, h3, h4⟩ := mapA_parts ht
  obtain ⟨b, arr, clock, hav, hb, _, hblk, hmr⟩ := h.mapAt hx hk
  refine ⟨_, .v, fun w' hxx => ?_⟩
  have hb' := hxx.block hblk
  simp [execOp, resolve, invoke, builtin, Builtin.len_, hts, run_underlying h1, hav, goInt, MapKept.run_getObj_map hb', hmr.len]
/-- m[k] -/
theorem RS.lookup {t : TypeId} {x y : Operand} {k : Nat} {td : TypeDesc} {z kv : Value} {es : List (Value × AV)} (ht : mapA P t = some (td, z)) (hx : st.ev x = .mp k) (hk : hget st.h k = some (.mp td es)) (hy : ∀ (Rd : Nat → Nat → Value → Prop) E u, VR Rd E (st.ev y) u → u = kv) (hkey : KeyD td kv) :
    RS P ⟨dd, .lookup t x y false, ty, pos, af, gd⟩ st ((alook es kv).getD (zvA z)) := fun w0 Rd0 e a w h => by
  obtain ⟨kt, et, i, h1, h2, h3, h4⟩ := mapA_parts ht
  obtain ⟨b, arr, clock, hav, hb, _, hblk, hmr⟩ := h.mapAt hx hk
  have hvy := hy _ _ _ (h.ev y)
  rcases hmr.find (P := P) hkey h2 with ⟨f1, f2, f3, _⟩ | ⟨j, m, c, f1, f2, f3, f4, f5, _⟩
  · refine ⟨z, by rw [f3]; exact zvA_ok z, fun w' hxx => ?_⟩
    have hb' := hxx.block hblk
    simp [execOp, Instr.lookup, hav, hvy, run_underlying h1, MapKept.run_getObj_map hb', h2.chk _ _ _ hkey, f1, zeroValue, typeInfo, h3, h4]
  · refine ⟨m.val, by rw [f4]; exact f5.some_of_none, fun w' hxx => ?_⟩
    have hb' := hxx.block hblk
    simp [execOp, Instr.lookup, hav, hvy, run_underlying h1, MapKept.run_getObj_map hb', h2.chk _ _ _ hkey, f1]
/-- v, ok := m[k] -/
theorem RS.lookupOk {t : TypeId} {x y : Operand} {k : Nat} {td : TypeDesc} {z kv : Value} {es : List (Value × AV)} (ht : mapA P t = some (td, z)) (hx : st.ev x = .mp k) (hk : hget st.h k = some (.mp td es)) (hy : ∀ (Rd : Nat → Nat → Value → Prop) E u, VR Rd E (st.ev y) u → u = kv) (hkey : KeyD td kv) :
    RS P ⟨dd, .lookup t x y true, ty, pos, af, gd⟩ st (.tu [(alook es kv).getD (zvA z), .v (.bool (alook es kv).isSome)]) := fun w0 Rd0 e a w h => by
  obtain ⟨kt, et, i, h1, h2, h3, h4⟩ := mapA_parts ht
  obtain ⟨b, arr, clock, hav, hb, _, hblk, hmr⟩ := h.mapAt hx hk
  have hvy := hy _ _ _ (h.ev y)
  rcases hmr.find (P := P) hkey h2 with ⟨f1, f2, f3, _⟩ | ⟨j, m, c, f1, f2, f3, f4, f5, _⟩
  · have hl : LR (VR (RDx w0 Rd0 e st.h w) (some e)) [(alook es kv).getD (zvA z), .v (.bool (alook es kv).isSome)] [z, .bool false] := by
      rw [f3]; exact LR.cons (zvA_ok z) (LR.cons .v LR.nil)
    refine ⟨_, .tu _ hl.1 hl.2, fun w' hxx => ?_⟩
    have hb' := hxx.block hblk
    simp [execOp, Instr.lookup, hav, hvy, run_underlying h1, MapKept.run_getObj_map hb', h2.chk _ _ _ hkey, f1, zeroValue, typeInfo, h3, h4]
  · have hl : LR (VR (RDx w0 Rd0 e st.h w) (some e)) [(alook es kv).getD (zvA z), .v (.bool (alook es kv).isSome)] [m.val, .bool true] := by
      rw [f4]; exact LR.cons f5.some_of_none (LR.cons .v LR.nil)
    refine ⟨_, .tu _ hl.1 hl.2, fun w' hxx => ?_⟩
    have hb' := hxx.block hblk
    simp [execOp, Instr.lookup, hav, hvy, run_underlying h1, MapKept.run_getObj_map hb', h2.chk _ _ _ hkey, f1]

/-- make(map[K]V) -/
theorem SS.makeMap {t : TypeId} {td : TypeDesc} {z : Value} (ht : mapA P t = some (td, z)) (hd : d < st.n) (hK : K ⟨st.n, (d, .mp d) :: tkill d st.t, (d, some (.mp td [])) :: hkill d st.h⟩) : SS P ⟨some d, .makeMap t none, ty, pos, af, gd⟩ st K := by
  intro w0 Rd0 e a w next Q hga hn
  obtain ⟨hs1, hR1⟩ := hga.sr.kill d
  have hnew := hNew w (.map #[] 0)
  obtain ⟨hs2, hR2⟩ := hs1.turn d (some w.heap.size) (e.sv d) 0 (some (.mp td [])) (hga.sr.ext.alloc (.map #[] 0)) (.inl ⟨hnom_kill d st.h, by have := hga.n.2; omega⟩) (by simp) (fun b hb _ => hOld w _ b hb)
    (fun b hb _ => by obtain rfl := Option.some.inj hb; exact ⟨hga.sr.ext.mine (Nat.le_refl _), by simp, .inr (Nat.le_refl _)⟩)
    (fun b o u ob ho hb hlt hcell => by
      have hblt := (hs1.base _ _ _ ho hb).2
      refine ⟨by rw [World.cell?_of_block (w := w) (hOld w _ b hblt)]; exact hcell, fun _ hbb => ?_⟩
      obtain rfl := Option.some.inj hbb
      omega)
    (fun Rd hR _ ob' hob' => by
      obtain rfl := Option.some.inj hob'
      exact ⟨Env.upd_lent, w.heap.size, #[], 0, Env.upd_blk, hnew, rfl, fun j x m hx => by simp at hx, fun m hm => by simp at hm, stamped_empty 0, fun j m hj => by simp at hj, rfl⟩)
  refine wp_value (v := .map (some w.heap.size)) (w' := w.alloc (.map #[] 0)) (by simp [execOp, run_makeMap]) (hn _ hK _ _ _ ⟨by simpa [Act.put] using hga.n, hga.d, hs2, TR.put ?_ (by rw [hga.n.1]; exact hd) (.mp Env.upd_blk)⟩)
  exact (((hga.tr.kill d).mono hR1).mono hR2).env d (tnom_kill d st.t) (fun _ hi => Env.upd_blk' hi) (fun _ hi => Env.upd_sv' hi)

/-- m[k] = v -/
theorem SS.mapUpdate {t : TypeId} {x y v : Operand} {k : Nat} {td : TypeDesc} {z kv : Value} {es : List (Value × AV)} {h1 : Hp} {c : AV} (ht : mapA P t = some (td, z)) (hx : st.ev x = .mp k) (hl : lendA st.h (st.ev v) = some (h1, c))
    (hk : hget h1 k = some (.mp td es)) (hy : ∀ (Rd : Nat → Nat → Value → Prop) E u, VR Rd E (st.ev y) u → u = kv) (hkey : KeyD td kv) (hK : K ⟨st.n, st.t, (k, some (.mp td (aput es kv c))) :: h1⟩) : SS P ⟨none, .mapUpdate t x y v, ty, pos, af, gd⟩ st K := by
  intro w0 Rd0 e a w next Q hga hn
  obtain ⟨kt, et, i, p1, p2, p3, p4⟩ := mapA_parts ht
  obtain ⟨e1, len, hv⟩ := lendA_ok hga.sr (hga.ev v) hl
  have hg := hga.lent len
  have hx' : (⟨st.n, st.t, h1⟩ : St).ev x = .mp k := by rw [← hx]; cases x <;> rfl
  obtain ⟨b, arr, clock, hav, hb, hl0, hblk, hmr⟩ := hg.mapAt hx' hk
  have hvy := hy _ _ _ (hga.ev y)
  have hbase := hg.sr.base _ _ _ hk hb
  -- the entries anew
  have hnew : ∃ arr' clock', (Instr.mapUpdate t (.map (some b)) kv (a.eval v)).run P w = .ok () { w with heap := w.heap.setIfInBounds b (.map arr' clock') } ∧ ∀ Rd, (∀ b o u, RDx w0 Rd0 e1 h1 w b o u → Rd b o u) → MR Rd td (aput es kv c) arr' clock' := by
    rcases hmr.find (P := P) hkey p2 with ⟨f1, f2, f3, f4⟩ | ⟨j, m, c0, f1, f2, f3, f4, f5, f6, f7⟩
    · refine ⟨arr.push { key := kv, val := a.eval v, born := clock }, clock + 1, ?_, fun Rd hR => ?_⟩
      · simp [Instr.mapUpdate, run_underlying p1, MapKept.run_getObj_map hblk, p2.chk _ _ _ hkey, f1, MapKept.run_setObj_map _ hblk, Result.andThen]
      · rw [f4]
        refine ⟨by simp [hmr.len], fun j x m hx hm => ?_, fun m hm => ?_, stamped_push hmr.stp f2, fun j m hj => ?_, by rw [hmr.clk]; simp⟩
        · by_cases hj : j < es.length
          · rw [List.getElem?_append_left hj] at hx
            rw [Array.getElem?_push, if_neg (by rw [hmr.len]; omega)] at hm
            exact ⟨(hmr.key j x m hx hm).1, (hmr.key j x m hx hm).2.mono hR⟩
          · have hje : j = es.length := by
              have := (List.getElem?_eq_some_iff.1 hx).1
              simp at this; omega
            subst hje
            simp at hx
            rw [Array.getElem?_push, if_pos hmr.len.symm] at hm
            simp at hm
            subst hx; subst hm
            exact ⟨rfl, hv.mono hR⟩
        · rw [Array.toList_push, List.mem_append] at hm
          rcases hm with hm | hm
          · exact hmr.isk m hm
          · simp at hm; subst hm; exact hkey
        · rw [Array.getElem?_push] at hj
          split at hj
          · rename_i e
            cases hj
            rw [e]; exact hmr.clk
          · exact hmr.brn j m hj
    · have hkeyj : ∀ e', arr[j]? = some e' → ({ e' with key := kv, val := a.eval v } : MapEntry).key = e'.key := fun e' he' => by rw [f2] at he'; cases he'; exact f3.symm
      refine ⟨arr.modify j fun e => { e with key := kv, val := a.eval v }, clock, ?_, fun Rd hR => ?_⟩
      · simp [Instr.mapUpdate, run_underlying p1, MapKept.run_getObj_map hblk, p2.chk _ _ _ hkey, f1, f2, f3, p2.stay _ _ hkey, MapKept.run_setObj_map _ hblk, Result.andThen]
      · rw [f7]
        refine ⟨by simp [hmr.len], fun i x m' hx hm => ?_, fun m' hm' => ?_, stamped_modify hmr.stp _ _ (fun _ _ => rfl) (fun e' _ he' => hkeyj e' he'), fun i m' hm' => ?_, by rw [hmr.clk]; simp⟩
        rotate_left
        · obtain ⟨i, hi, rfl⟩ := List.getElem_of_mem hm'
          rw [Array.getElem_toList, Array.getElem_modify]
          split
          · exact hkey
          · exact hmr.isk _ (by simp)
        · rw [Array.getElem?_modify] at hm'
          split at hm'
          · obtain ⟨m0, hm0, rfl⟩ := Option.map_eq_some_iff.1 hm'
            exact hmr.brn i m0 hm0
          · exact hmr.brn i m' hm'
        rw [Array.getElem?_modify] at hm
        by_cases hij : j = i
        · subst hij
          have hjl : j < es.length := (List.getElem?_eq_some_iff.1 f6).1
          rw [f2] at hm
          simp at hm
          simp [hjl] at hx
          subst hx; subst hm
          exact ⟨rfl, hv.mono hR⟩
        · rw [if_neg hij] at hm
          rw [List.getElem?_set_ne hij] at hx
          exact ⟨(hmr.key i x m' hx hm).1, (hmr.key i x m' hx hm).2.mono hR⟩
  obtain ⟨arr', clock', hrun, hmr'⟩ := hnew
  have hset := heap_set (o' := .map arr' clock') hblk
  have hext : Bx w0 { w with heap := w.heap.setIfInBounds b (.map arr' clock') } :=
    hg.sr.ext.step rfl rfl rfl (by simp) fun j hj _ => hset.2 j fun e => hj (by rw [e]; exact hbase.1)
  obtain ⟨hs2, hR2⟩ := hg.sr.turn (w' := { w with heap := w.heap.setIfInBounds b (.map arr' clock') }) k (some b) (e1.sv k) 0 (some (.mp td (aput es kv c))) hext (.inr ⟨hb.symm, rfl⟩) (by simp)
    (fun b' hb' hne => hset.2 b' fun hh => hne _ hk (by rw [hb]; exact congrArg some hh.symm))
    (fun b' hb' _ => by obtain rfl := Option.some.inj hb'; exact ⟨hbase.1, by simpa using hbase.2, .inl ⟨_, hk, hb⟩⟩)
    (fun b' o' u' ob ho hb' hlt hcell => by have : e1.lent k = 0 := hl0; omega)
    (fun Rd hR _ ob' hob' => by
      obtain rfl := Option.some.inj hob'
      exact ⟨Env.upd_lent, b, arr', clock', Env.upd_blk, hset.1, hmr' Rd hR⟩)
  refine wp_none (w' := { w with heap := w.heap.setIfInBounds b (.map arr' clock') }) ?_ (hn _ hK _ _ _ ⟨hg.n, hg.d, hs2, (hg.tr.mono hR2).envEq (fun j => by by_cases hj : j = k <;> simp [Env.upd, hj, hb]) (fun j => by by_cases hj : j = k <;> simp [Env.upd, hj])⟩)
  simp [execOp, hav, hvy, hrun]

/-- a slice against nil: it may be nil, if there is nothing in it -/
theorem SS.nilEq {t E : TypeId} {x : Operand} {t2 : TypeId} {sz by_ : Nat} {z : List Value} {tt : Bool} {sz2 : Nat} {rows : List (List AV)} (ht : elA P t = some (E, sz, by_, z)) (hx : st.ev x = .sl tt sz2 rows) (hpos : rows = [] ∨ 0 < sz2) (hd : d < st.n)
    (hK : ∀ b : Bool, (b = true → rows = []) → K ⟨st.n, (d, .v (.bool b)) :: st.t, st.h⟩) : SS P ⟨some d, .binOp .eql t x (.const (.slice none 0 0)) t2, ty, pos, af, gd⟩ st K := by
  intro w0 Rd0 e a w next Q hga hn
  obtain ⟨i, zv, p2, _⟩ := elA_parts ht
  have hvx := hga.ev x
  rw [hx] at hvx
  obtain ⟨ad, cap, us, hav, hw, h1c, hlr, _, _, _, ha⟩ := hvx.sl_inv
  have hb : ad.isNone = true → rows = [] := fun hn => by
    cases rows with
    | nil => rfl
    | cons r rows =>
      have hr := hw r (by simp)
      have hpos : 0 < sz2 := hpos.resolve_left (by simp)
      have hne : us ≠ [] := by
        rintro rfl
        have := hlr.1
        simp at this; omega
      obtain ⟨b, o, rfl, _⟩ := ha hne
      cases hn
  refine wp_value (v := .bool ad.isNone) (w' := w) ?_ (hn _ (hK ad.isNone hb) e _ _ (hga.put hd .v))
  have e1 : a.eval (.const (.slice none 0 0)) = .slice none 0 0 := rfl
  have e2 : (eqGuard .eql t x (.const (.slice none 0 0)) (.slice ad rows.length cap) (.slice none 0 0)).run P w = .ok () w := by simp [eqGuard]
  simp only [execOp, hav, e1, e2, Sem.run_bind, Go.Lib.run_eql_slice_nil w t E ad rows.length cap 0 0 p2, Result.andThen_ok, Sem.run_pure]

theorem RS.max2 {ts : Array TypeId} {x y : Operand} {k : IntKind} {m n : Int} (hx : st.ev x = .v (.int k m)) (hy : st.ev y = .v (.int k n)) : RS P ⟨dd, .call ⟨.builtin .max, #[x, y], ts⟩, ty, pos, af, gd⟩ st (.v (.int k (if n > m then n else m))) := fun w0 Rd0 e a w h => by
  have h1 := h.ev x
  have h2 := h.ev y
  rw [hx] at h1
  rw [hy] at h2
  refine ⟨_, .v, fun w' _ => ?_⟩
  have e1 := h1.v_inv
  have e2 := h2.v_inv
  have e3 : (#[x, y] : Array Operand).map a.eval = #[.int k m, .int k n] := by simp only [List.map_toArray, List.map_cons, List.map_nil, e1, e2]
  simp only [execOp, resolve, e3, Sem.run_bind, Sem.run_pure, Result.andThen_ok, invoke, builtin, Builtin.max_, List.foldlM_cons, List.foldlM_nil, Builtin.max2]
end
end Go.Proofs.Ytggnolfcgaglfaa
