/- Appends; stores into rows; names that are new. -/
import Derived.Test.YtggnolfcgaglfaaSymP
set_option linter.unusedVariables false
set_option linter.unusedSimpArgs false
namespace Go.Proofs.Ytggnolfcgaglfaa
open Go Go.RowKit

mutual
theorem ment_nom (d : Nat) : ∀ c : AV, c.nom (fun k => k == d) = !c.ment d
  | .un => rfl
  | .v _ => rfl
  | .sl _ _ _ => rfl
  | .fp _ => rfl
  | .ow _ => rfl
  | .pt _ _ => rfl
  | .pe _ _ _ _ => rfl
  | .sw _ _ _ _ => rfl
  | .mp _ => rfl
  | .ag cs => by rw [AV.nom, AV.ment]; exact mentL_nom d cs
  | .tu cs => by rw [AV.nom, AV.ment]; exact mentL_nom d cs
  | .cl _ fs cs => by rw [AV.nom, AV.ment, mentL_nom d fs, mentL_nom d cs, Bool.not_or]
theorem mentL_nom (d : Nat) : ∀ cs : List AV, AV.nomL (fun k => k == d) cs = !AV.mentL d cs
  | [] => rfl
  | c :: cs => by rw [AV.nomL, AV.mentL, ment_nom d c, mentL_nom d cs, Bool.not_or]
end
theorem kill_nom {d : Nat} {c : AV} (h : c.nom (fun k => k == d) = true) : c.kill d = c := by
  rw [ment_nom] at h
  unfold AV.kill
  rw [if_neg]
  cases hh : c.ment d
  · simp
  · rw [hh] at h; cases h
theorem Ob.kill_nom {d : Nat} {o : Ob} (h : o.nom (fun k => k == d) = true) : o.kill d = o := by
  cases o with
  | box t cs =>
    simp only [Ob.kill]
    congr 1
    rw [List.map_congr_left (g := id), List.map_id]
    intro c hc
    obtain ⟨i, hi, rfl⟩ := List.getElem_of_mem hc
    exact Go.Proofs.Ytggnolfcgaglfaa.kill_nom (nomL_get h i _ (List.getElem?_eq_getElem hi))
  | arr => rfl
  | mp => rfl
  | nr t cs =>
    simp only [Ob.kill]
    congr 1
    rw [List.map_congr_left (g := id), List.map_id]
    intro c hc
    obtain ⟨i, hi, rfl⟩ := List.getElem_of_mem hc
    exact Go.Proofs.Ytggnolfcgaglfaa.kill_nom (nomL_get h i _ (List.getElem?_eq_getElem hi))
theorem Ob.kilp_nom {p : Nat → Bool} {o : Ob} (h : o.nom p = true) : o.kilp p = o := by
  cases o with
  | box t cs =>
    simp only [Ob.kilp]
    congr 1
    rw [List.map_congr_left (g := id), List.map_id]
    intro c hc
    obtain ⟨i, hi, rfl⟩ := List.getElem_of_mem hc
    exact kilp_of_nom (nomL_get h i _ (List.getElem?_eq_getElem hi))
  | arr => rfl
  | mp => rfl
  | nr t cs =>
    simp only [Ob.kilp]
    congr 1
    rw [List.map_congr_left (g := id), List.map_id]
    intro c hc
    obtain ⟨i, hi, rfl⟩ := List.getElem_of_mem hc
    exact kilp_of_nom (nomL_get h i _ (List.getElem?_eq_getElem hi))

section
variable {P : Program} {st : St} {d : Nat} {ty : TypeId} {pos : String} {af : Array Edge} {gd : Option (Nat × Bool)} {K : St → Prop}

theorem SS.mono {o : Oper} {K K' : St → Prop} (h : SS P o st K) (hk : ∀ s, K s → ∃ s', SLe P s s' ∧ K' s') : SS P o st K' := fun w0 Rd0 e a w next Q hga hn =>
  h w0 Rd0 e a w next Q hga fun st' hst' e' a' w' hg => by
    obtain ⟨s', hle, hs'⟩ := hk st' hst'
    obtain ⟨e2, hg2⟩ := hle w0 Rd0 e' a' w' hg
    exact hn s' hs' e2 a' w' hg2

/-- names that are new: nothing is forgotten -/
theorem SS.fresh {o : Oper} {dd : Option Nat} {c : AV} {os : Hp} (ht : ∀ x, (tget st.t x).nom (fun k => k == d) = true) (hh : ∀ k ob, hget st.h k = some ob → ob.nom (fun k => k == d) = true)
    (h : SS P o st fun s => s = ⟨st.n, tput dd c (tkill d st.t), os ++ hkill d st.h⟩) : SS P o st fun s => s = ⟨st.n, tput dd c st.t, os ++ st.h⟩ := by
  refine h.mono fun s hs => ?_
  subst hs
  refine ⟨_, SLe.same (fun x => ?_) (fun k => ?_), rfl⟩
  · rw [tget_tput, tget_tput, tget_kill, kill_nom (ht x)]
  · rw [hget_append, hget_append, hget_kill]
    split
    · rfl
    · cases hk : hget st.h k with
      | none => rfl
      | some ob => rw [Option.map_some, Ob.kill_nom (hh k ob hk)]
theorem SS.freshB {o : Oper} {dd : Option Nat} {c : AV} {os : Hp} {p : Nat → Bool} (ht : ∀ x, (tget st.t x).nom p = true) (hh : ∀ k ob, hget st.h k = some ob → ob.nom p = true) (hp : ∀ k, p k = true → hget st.h k = none)
    (h : SS P o st fun s => s = ⟨st.n, tput dd c (tkilp p st.t), os ++ hkilp p st.h⟩) : SS P o st fun s => s = ⟨st.n, tput dd c st.t, os ++ st.h⟩ := by
  refine h.mono fun s hs => ?_
  subst hs
  refine ⟨_, SLe.same (fun x => ?_) (fun k => ?_), rfl⟩
  · rw [tget_tput, tget_tput, tget_kilp, kilp_of_nom (ht x)]
  · rw [hget_append, hget_append, hget_kilp]
    split
    · rfl
    · split
      · rename_i hpk; exact hp k hpk
      · cases hk : hget st.h k with
        | none => rfl
        | some ob => rw [Option.map_some, Ob.kilp_nom (hh k ob hk)]

/-- the same object under another name -/
theorem SR.moveTo {w0 : Bs} {w : World} {Rd0 : Nat → Nat → Value → Prop} {e : Env} {h : Hp} (hs : SR w0 Rd0 e h w) {k d : Nat} {ob : Ob} (hk : hget h k = some ob) (hdk : d ≠ k) (hn : hnom d h = true) (hd0 : d < 4294967296) :
    SR w0 Rd0 (e.upd d (e.blk k) (e.sv k) (e.lent k)) ((d, some ob) :: (k, none) :: h) w ∧ ∀ b o u, RDx w0 Rd0 e h w b o u → RDx w0 Rd0 (e.upd d (e.blk k) (e.sv k) (e.lent k)) ((d, some ob) :: (k, none) :: h) w b o u := by
  have hsplit : ∀ j ob', hget ((d, some ob) :: (k, none) :: h) j = some ob' → (j = d ∧ ob' = ob) ∨ (j ≠ d ∧ j ≠ k ∧ hget h j = some ob') := fun j ob' hj => by
    by_cases hjd : j = d
    · subst hjd; rw [hget_same] at hj; exact .inl ⟨rfl, (Option.some.inj hj).symm⟩
    · rw [hget_other hjd] at hj
      by_cases hjk : j = k
      · subst hjk; rw [hget_same] at hj; cases hj
      · rw [hget_other hjk] at hj; exact .inr ⟨hjd, hjk, hj⟩
  have hR : ∀ b o u, RDx w0 Rd0 e h w b o u → RDx w0 Rd0 (e.upd d (e.blk k) (e.sv k) (e.lent k)) ((d, some ob) :: (k, none) :: h) w b o u := fun b o u ⟨h1, h2, h3⟩ => ⟨h1, h2, fun j ob' hj hb => by
    rcases hsplit j ob' hj with ⟨rfl, rfl⟩ | ⟨hjd, hjk, hj'⟩
    · rw [Env.upd_blk] at hb; rw [Env.upd_lent]; exact h3 k _ hk hb
    · rw [Env.upd_blk' hjd] at hb; rw [Env.upd_lent' hjd]; exact h3 j _ hj' hb⟩
  refine ⟨⟨hs.ext, hs.good, fun j ob' hj => ?_, fun j ob' b hj hb => ?_, fun j j' ob1 ob2 b hj hj' hb hb' => ?_, fun j hj => by rw [Env.upd_blk' (by omega), Env.upd_sv' (by omega)]; exact hs.pin j hj⟩, hR⟩
  · rcases hsplit j ob' hj with ⟨rfl, rfl⟩ | ⟨hjd, hjk, hj'⟩
    · have ho := (hs.ob k _ hk).mono hR
      have hm : ob'.ment j = false := hnom_get hn k _ hk
      cases ob' with
      | box t cs =>
        obtain ⟨h0, b, us, h1, h2, h3⟩ := ho
        exact ⟨by rw [Env.upd_lent]; exact h0, b, us, by rw [Env.upd_blk]; exact h1, h2, h3.1, fun i c u hc hu => (h3.2 i c u hc hu).env rfl j (mentL_false (by simpa [Ob.ment] using hm) i c hc) (fun _ hi => Env.upd_blk' hi) (fun _ hi => Env.upd_sv' hi)⟩
      | arr t sz rows wr =>
        obtain ⟨h0, h1, h2, h3⟩ := ho
        refine ⟨h0, h1, fun hw => by rw [Env.upd_lent]; exact h2 hw, ?_⟩
        rcases h3 with ⟨a1, a2, a3⟩ | ⟨b, cap, cur, a1, a2, a3, a4, a5, a6, a7, a8⟩
        · exact .inl ⟨a1, by rw [Env.upd_blk]; exact a2, by rw [Env.upd_sv]; exact a3⟩
        · exact .inr ⟨b, cap, cur, by rw [Env.upd_blk]; exact a1, by rw [Env.upd_sv]; exact a2, a3, a4, a5, a6, a7, by rw [Env.upd_lent]; exact a8⟩
      | mp d es =>
        obtain ⟨h0, b, arr, clock, h1, h2, h3⟩ := ho
        exact ⟨by rw [Env.upd_lent]; exact h0, b, arr, clock, by rw [Env.upd_blk]; exact h1, h2, h3⟩
      | nr t cs =>
        obtain ⟨h0, h3⟩ := ho
        refine ⟨by rw [Env.upd_lent]; exact h0, ?_⟩
        rcases h3 with ⟨a1, a2, a3⟩ | ⟨b, cap, cur, a1, a2, a3, a4, a5, a6, a7⟩
        · exact .inl ⟨a1, by rw [Env.upd_blk]; exact a2, by rw [Env.upd_sv]; exact a3⟩
        · exact .inr ⟨b, cap, cur, by rw [Env.upd_blk]; exact a1, by rw [Env.upd_sv]; exact a2, a3, a4, a5, a6, ⟨a7.1, fun i c u hc hu => (a7.2 i c u hc hu).env rfl j (mentL_false (by simpa [Ob.ment] using hm) i c hc) (fun _ hi => Env.upd_blk' hi) (fun _ hi => Env.upd_sv' hi)⟩⟩
    · exact ((hs.ob j ob' hj').mono hR).env (k := d) hjd (.inl (hnom_get hn j ob' hj')) (fun _ hi => Env.upd_blk' hi) (fun _ hi => Env.upd_sv' hi) (fun _ hi => Env.upd_lent' hi) (fun b _ _ => rfl)
  · rcases hsplit j ob' hj with ⟨rfl, rfl⟩ | ⟨hjd, hjk, hj'⟩
    · rw [Env.upd_blk] at hb; exact hs.base k _ b hk hb
    · rw [Env.upd_blk' hjd] at hb; exact hs.base j _ b hj' hb
  · rcases hsplit j ob1 hj with ⟨rfl, rfl⟩ | ⟨hjd, hjk, hj1⟩
    · rcases hsplit j' ob2 hj' with ⟨rfl, rfl⟩ | ⟨hjd', hjk', hj2⟩
      · rfl
      · rw [Env.upd_blk] at hb
        rw [Env.upd_blk' hjd'] at hb'
        exact absurd (hs.inj _ _ _ _ _ hj2 hk hb' hb) hjk'
    · rcases hsplit j' ob2 hj' with ⟨rfl, rfl⟩ | ⟨hjd', hjk', hj2⟩
      · rw [Env.upd_blk] at hb'
        rw [Env.upd_blk' hjd] at hb
        exact absurd (hs.inj _ _ _ _ _ hj1 hk hb hb') hjk
      · rw [Env.upd_blk' hjd] at hb
        rw [Env.upd_blk' hjd'] at hb'
        exact hs.inj _ _ _ _ _ hj1 hj2 hb hb'

theorem hnom_none {d : Nat} {h : Hp} (hn : hnom d h = true) (k : Nat) : hnom d ((k, none) :: h) = true := by simpa [hnom] using hn
theorem kill_idem (k : Nat) (c : AV) : (c.kill k).kill k = c.kill k := by
  have := kill_ment k c
  generalize c.kill k = x at this
  unfold AV.kill
  rw [if_neg (by rw [this]; simp)]
theorem Ob.kill_idem (k : Nat) (o : Ob) : (o.kill k).kill k = o.kill k := by
  cases o with
  | box t cs =>
    simp only [Ob.kill, List.map_map]
    congr 1
    exact List.map_congr_left fun c _ => by simp [Go.Proofs.Ytggnolfcgaglfaa.kill_idem]
  | arr => rfl
  | mp => rfl
  | nr t cs =>
    simp only [Ob.kill, List.map_map]
    congr 1
    exact List.map_congr_left fun c _ => by simp [Go.Proofs.Ytggnolfcgaglfaa.kill_idem]

theorem run_appendOp {x y : Operand} {t : TypeId} {dd : Option Nat} {a : Act} {w w' : World} {v : Value} (h : (Builtin.append_ #[t, t] ty #[a.eval x, a.eval y]).run P w = .ok v w') :
    (execOp a.eval ⟨dd, .call ⟨.builtin .append, #[x, y], #[t, t]⟩, ty, pos, af, gd⟩).run P w = .ok (.value v) w' := by
  have e3 : (#[x, y] : Array Operand).map a.eval = #[a.eval x, a.eval y] := by simp only [List.map_toArray, List.map_cons, List.map_nil]
  simp only [execOp, resolve, e3, Sem.run_bind, Sem.run_pure, Result.andThen_ok, invoke, builtin]
  simp only [Sem.run_map, h, Result.andThen_ok]

/-- APPEND to an object of the call's own: the row that comes out has a new name; the old one is known no more -/
theorem SS.appendOw {t E : TypeId} {x y : Operand} {k sz by_ : Nat} {z : List Value} {h1 : Hp} {tt wr : Bool} {rows ys : List (List AV)} (ht : elA P t = some (E, sz, by_, z)) (hx : st.ev x = .ow k) (hl : lendC st.h (st.ev y) = some (h1, .sl tt sz ys))
    (hk : hget h1 k = some (.arr E sz rows wr)) (hdk : d ≠ k) (hpos : 0 < sz) (hm : rows.length + ys.length ≤ maxLen) (hby : (rows.length + ys.length) * by_ ≤ 140737488355328) (hd : d < st.n)
    (hK : K ⟨st.n, (d, .ow d) :: tkill d st.t, (d, some (.arr E sz (rows ++ ys) wr)) :: (k, none) :: hkill d h1⟩) : SS P ⟨some d, .call ⟨.builtin .append, #[x, y], #[t, t]⟩, ty, pos, af, gd⟩ st K := by
  intro w0 Rd0 e a w next Q hga hn
  obtain ⟨i, zv, p2, p3, p4, p5, rfl, rfl, _⟩ := elA_parts ht
  obtain ⟨e1, len, hv⟩ := lendC_ok hga.sr (hga.ev y) hl
  have hg := hga.lent len
  have hvx := hg.ev x
  have hxev : a.eval x = e1.sv k := by
    have : (⟨st.n, st.t, h1⟩ : St).ev x = .ow k := by rw [← hx]; cases x <;> rfl
    rw [this] at hvx
    generalize a.eval x = u at hvx
    cases hvx with
    | ow => rfl
  obtain ⟨hs1, hR1⟩ := hg.sr.kill d
  have hk1 : hget (hkill d h1) k = some (.arr E i.size rows wr) := by rw [hget_kill, hk]; rfl
  obtain ⟨hs2, hR2⟩ := hs1.moveTo hk1 hdk (hnom_kill d h1) (by have := hga.n.2; omega)
  have hsrc := ((hv.mono hR1).mono hR2).some_of_none (E := some (e1.upd d (e1.blk k) (e1.sv k) (e1.lent k)))
  obtain ⟨v', w', nb, l, hrun, hs3, hR3⟩ := hs2.append (by have := hga.n.2; omega) hget_same t ty i zv p2 p3 p4 rfl p5 hpos hsrc hm hby
  rw [Env.upd_sv] at hrun
  have hheap : ∀ j, hget ((d, some (.arr E i.size (rows ++ ys) wr)) :: (k, none) :: hkill d h1) j = hget ((d, some (.arr E i.size (rows ++ ys) wr)) :: hkill d ((d, some (.arr E i.size rows wr)) :: (k, none) :: hkill d h1)) j := fun j => by
    by_cases hjd : j = d
    · subst hjd; rw [hget_same, hget_same]
    · rw [hget_other hjd, hget_other hjd, hget_kill, hget_other hjd]
      by_cases hjk : j = k
      · subst hjk; rw [hget_same]; rfl
      · rw [hget_other hjk, hget_kill]
        cases hget h1 j with
        | none => rfl
        | some ob => simp [Ob.kill_idem]
  have htr : TR (RDx w0 Rd0 ((e1.upd d (e1.blk k) (e1.sv k) (e1.lent k)).upd d nb v' l) ((d, some (.arr E i.size (rows ++ ys) wr)) :: hkill d ((d, some (.arr E i.size rows wr)) :: (k, none) :: hkill d h1)) w') ((e1.upd d (e1.blk k) (e1.sv k) (e1.lent k)).upd d nb v' l) ((d, .ow d) :: tkill d st.t) (a.tmps.setIfInBounds d v') := by
    refine TR.put ?_ (by rw [hga.n.1]; exact hd) ?_
    · have h1' := (((((hg.tr.kill d).mono hR1).mono hR2).env d (tnom_kill d st.t) (e' := e1.upd d (e1.blk k) (e1.sv k) (e1.lent k)) (fun _ hi => Env.upd_blk' hi) (fun _ hi => Env.upd_sv' hi)).mono hR3)
      exact h1'.env d (tnom_kill d st.t) (fun _ hi => Env.upd_blk' hi) (fun _ hi => Env.upd_sv' hi)
    · have := VR.ow (Rd := RDx w0 Rd0 ((e1.upd d (e1.blk k) (e1.sv k) (e1.lent k)).upd d nb v' l) ((d, some (.arr E i.size (rows ++ ys) wr)) :: hkill d ((d, some (.arr E i.size rows wr)) :: (k, none) :: hkill d h1)) w') (e := (e1.upd d (e1.blk k) (e1.sv k) (e1.lent k)).upd d nb v' l) (k := d)
      rw [Env.upd_sv] at this
      exact this
  have hga' : Ga w0 Rd0 _ ⟨st.n, (d, .ow d) :: tkill d st.t, _⟩ (a.put (some d) v') w' := ⟨by simpa [Act.put] using hga.n, hga.d, hs3, htr⟩
  exact wp_value (run_appendOp (by rw [hxev]; exact hrun)) (hn _ hK _ _ _ (hga'.ext_heap hheap))

/-- APPEND to nothing -/
theorem SS.appendNil {t E : TypeId} {x y : Operand} {sz sz0 by_ : Nat} {z : List Value} {h1 : Hp} {tt : Bool} {ys : List (List AV)} (ht : elA P t = some (E, sz, by_, z)) (hx : st.ev x = .sl true sz0 []) (hl : lendC st.h (st.ev y) = some (h1, .sl tt sz ys))
    (hpos : 0 < sz) (hm : ys.length ≤ maxLen) (hby : ys.length * by_ ≤ 140737488355328) (hd : d < st.n)
    (hK : K ⟨st.n, (d, .ow d) :: tkill d st.t, (d, some (.arr E sz ys true)) :: hkill d h1⟩) : SS P ⟨some d, .call ⟨.builtin .append, #[x, y], #[t, t]⟩, ty, pos, af, gd⟩ st K := by
  intro w0 Rd0 e a w next Q hga hn
  obtain ⟨i, zv, p2, p3, p4, p5, rfl, rfl, _⟩ := elA_parts ht
  obtain ⟨e1, len, hv⟩ := lendC_ok hga.sr (hga.ev y) hl
  have hg := hga.lent len
  have hvx := hga.ev x
  rw [hx] at hvx
  obtain ⟨ad, cap, us, hav, _, _, _, _, _, htt, _⟩ := hvx.sl_inv
  have hc0 := htt rfl
  simp only [List.length_nil] at hc0 hav
  subst hc0
  obtain ⟨hs1, hR1⟩ := hg.sr.kill d
  obtain ⟨hs2, hR2⟩ := hs1.newNil d E i.size ad (hnom_kill d h1) (by have := hga.n.2; omega)
  have hsrc := ((hv.mono hR1).mono hR2).some_of_none (E := some (e1.upd d none (.slice ad 0 0) 0))
  obtain ⟨v', w', nb, l, hrun, hs3, hR3⟩ := hs2.append (by have := hga.n.2; omega) hget_same t ty i zv p2 p3 p4 rfl p5 hpos hsrc (by simpa using hm) (by simpa using hby)
  rw [Env.upd_sv] at hrun
  rw [List.nil_append] at hs3 hR3
  have hheap : ∀ j, hget ((d, some (.arr E i.size ys true)) :: hkill d h1) j = hget ((d, some (.arr E i.size ys true)) :: hkill d ((d, some (.arr E i.size [] true)) :: hkill d h1)) j := fun j => by
    by_cases hjd : j = d
    · subst hjd; rw [hget_same, hget_same]
    · rw [hget_other hjd, hget_other hjd, hget_kill, hget_kill, hget_other hjd, hget_kill]
      cases hget h1 j with
      | none => rfl
      | some ob => simp [Ob.kill_idem]
  have htr : TR (RDx w0 Rd0 ((e1.upd d none (.slice ad 0 0) 0).upd d nb v' l) ((d, some (.arr E i.size ys true)) :: hkill d ((d, some (.arr E i.size [] true)) :: hkill d h1)) w') ((e1.upd d none (.slice ad 0 0) 0).upd d nb v' l) ((d, .ow d) :: tkill d st.t) (a.tmps.setIfInBounds d v') := by
    refine TR.put ?_ (by rw [hga.n.1]; exact hd) ?_
    · have h1' := (((((hg.tr.kill d).mono hR1).mono hR2).env d (tnom_kill d st.t) (e' := e1.upd d none (.slice ad 0 0) 0) (fun _ hi => Env.upd_blk' hi) (fun _ hi => Env.upd_sv' hi)).mono hR3)
      exact h1'.env d (tnom_kill d st.t) (fun _ hi => Env.upd_blk' hi) (fun _ hi => Env.upd_sv' hi)
    · have := VR.ow (Rd := RDx w0 Rd0 ((e1.upd d none (.slice ad 0 0) 0).upd d nb v' l) ((d, some (.arr E i.size ys true)) :: hkill d ((d, some (.arr E i.size [] true)) :: hkill d h1)) w') (e := (e1.upd d none (.slice ad 0 0) 0).upd d nb v' l) (k := d)
      rw [Env.upd_sv] at this
      exact this
  have hga' : Ga w0 Rd0 _ ⟨st.n, (d, .ow d) :: tkill d st.t, _⟩ (a.put (some d) v') w' := ⟨by simpa [Act.put] using hga.n, hga.d, hs3, htr⟩
  exact wp_value (run_appendOp (by rw [hav]; exact hrun)) (hn _ hK _ _ _ (hga'.ext_heap hheap))
end
end Go.Proofs.Ytggnolfcgaglfaa
