/- A row of the call's own, cut at its end: the row that comes out has a new name; the old one is known no more. -/
import Derived.Test.YtggnolfcgaglfaaSymU
set_option linter.unusedVariables false
set_option linter.unusedSimpArgs false
namespace Go.Proofs.Ytggnolfcgaglfaa
open Go Go.RowKit
section
variable {P : Program} {st : St} {d : Nat} {ty : TypeId} {pos : String} {af : Array Edge} {gd : Option (Nat × Bool)} {K : St → Prop}
theorem SR.shrink {w0 : Bs} {w : World} {Rd0 : Nat → Nat → Value → Prop} {e : Env} {h : Hp} (hs : SR w0 Rd0 e h w) {k : Nat} {t : TypeId} {sz m : Nat} {rows : List (List AV)} (hk : hget h k = some (.arr t sz rows true)) (hn : hnom k h = true) (hk0 : k < 4294967296) (hm : m ≤ rows.length) :
    ∃ ad cap, e.sv k = .slice ad rows.length cap ∧ rows.length ≤ cap ∧ (∀ a, ad = some a → a.off = 0 ∧ a.spot = none ∨ cap = 0) ∧
    SR w0 Rd0 (e.upd k (e.blk k) (.slice ad m cap) 0) ((k, some (.arr t sz (rows.take m) true)) :: h) w ∧
    ∀ b o u, RDx w0 Rd0 e h w b o u → RDx w0 Rd0 (e.upd k (e.blk k) (.slice ad m cap) 0) ((k, some (.arr t sz (rows.take m) true)) :: h) w b o u := by
  obtain ⟨hw0, h1c, hl0, hrow⟩ := hs.ob _ _ hk
  have hl := hl0 rfl
  have hwt : ∀ r ∈ rows.take m, r.length = sz := fun r hr => hw0 r (List.mem_of_mem_take hr)
  have hfl : (rows.take m).flatten = rows.flatten.take (m * sz) := by
    have e1 : rows.flatten = (rows.take m).flatten ++ (rows.drop m).flatten := by rw [← List.flatten_append, List.take_append_drop]
    have e2 : (rows.take m).flatten.length = m * sz := by rw [flatten_len hwt, List.length_take, Nat.min_eq_left hm]
    rw [e1, ← e2, List.take_left]
  have h1t : ∀ c ∈ (rows.take m).flatten, c.one = true := fun c hc => h1c c (by rw [hfl] at hc; exact List.mem_of_mem_take hc)
  have go : ∀ ad cap, (∀ Rd, (∀ b o u, RDx w0 Rd0 e h w b o u → Rd b o u) → OR Rd (e.upd k (e.blk k) (.slice ad m cap) 0) w k (.arr t sz (rows.take m) true)) →
      SR w0 Rd0 (e.upd k (e.blk k) (.slice ad m cap) 0) ((k, some (.arr t sz (rows.take m) true)) :: h) w ∧
      ∀ b o u, RDx w0 Rd0 e h w b o u → RDx w0 Rd0 (e.upd k (e.blk k) (.slice ad m cap) 0) ((k, some (.arr t sz (rows.take m) true)) :: h) w b o u := fun ad cap hob =>
    hs.turn k (e.blk k) (.slice ad m cap) 0 _ hs.ext (.inl ⟨hn, hk0⟩) (Nat.le_refl _) (fun _ _ _ => rfl) (fun b hb _ => ⟨(hs.base _ _ _ hk hb).1, (hs.base _ _ _ hk hb).2, .inl ⟨_, hk, hb⟩⟩)
      (fun b o u ob ho hb hlt hcell => by omega) (fun Rd hR _ ob' hob' => by obtain rfl := Option.some.inj hob'; exact hob Rd hR)
  rcases hrow with ⟨hr, hbn, a, ha⟩ | ⟨b1, cap, cur, hb1, hsv, hcap, hmx, hcur, hcs, hlr, _⟩
  · subst hr
    have hm0 : m = 0 := by simpa using hm
    subst hm0
    refine ⟨a, 0, by rw [ha]; rfl, Nat.le_refl _, fun _ _ => .inr rfl, go a 0 fun Rd hR => ⟨(fun r hr => by cases hr), (fun c hc => by cases hc), fun _ => Env.upd_lent, .inl ⟨rfl, by rw [Env.upd_blk]; exact hbn, a, by rw [Env.upd_sv]⟩⟩⟩
  · refine ⟨some ⟨b1, 0, none⟩, cap, hsv, hcap, fun a ha => by cases ha; exact .inl ⟨rfl, rfl⟩, go _ cap fun Rd hR => ⟨hwt, h1t, fun _ => Env.upd_lent, .inr ⟨b1, cap, cur, by rw [Env.upd_blk]; exact hb1, by rw [Env.upd_sv, List.length_take, Nat.min_eq_left hm], by rw [List.length_take]; omega, hmx, hcur, hcs, ?_, by rw [Env.upd_lent]; exact Nat.zero_le _⟩⟩⟩
    rw [hfl, List.length_take]
    have e3 : cur.toList.take (min (m * sz) rows.flatten.length) = (cur.toList.take rows.flatten.length).take (m * sz) := by rw [List.take_take]
    rw [e3]
    refine ⟨by have h9 := hlr.1; simp only [List.length_take] at h9 ⊢; omega, fun j c u hc hu => ?_⟩
    rw [List.getElem?_take] at hc hu
    split at hc
    · rename_i hj
      rw [if_pos hj] at hu
      exact (hlr.2 j c u hc hu).mono hR
    · cases hc
theorem SS.shrinkOw {t E : TypeId} {x y : Operand} {k sz by_ m : Nat} {kk : IntKind} {z : List Value} {rows : List (List AV)} (ht : elA P t = some (E, sz, by_, z)) (hx : st.ev x = .ow k) (hk : hget st.h k = some (.arr E sz rows true)) (hy : st.ev y = .v (.int kk (m : Int)))
    (hdk : d ≠ k) (hm : m ≤ rows.length) (hd : d < st.n)
    (hK : K ⟨st.n, (d, .ow d) :: tkill d st.t, (d, some (.arr E sz (rows.take m) true)) :: (k, none) :: hkill d st.h⟩) : SS P ⟨some d, .slice t x none (some y) none, ty, pos, af, gd⟩ st K := by
  intro w0 Rd0 e a w next Q hga hn
  obtain ⟨i, zv, p2, p3, p4, p5, rfl, rfl, _⟩ := elA_parts ht
  have hvx := hga.ev x
  have hxev : a.eval x = e.sv k := by
    rw [hx] at hvx
    generalize a.eval x = u at hvx
    cases hvx with
    | ow => rfl
  have hvy := hga.ev y
  rw [hy] at hvy
  have hyev := hvy.v_inv
  obtain ⟨hs1, hR1⟩ := hga.sr.kill d
  have hk1 : hget (hkill d st.h) k = some (.arr E i.size rows true) := by rw [hget_kill, hk]; rfl
  obtain ⟨hs2, hR2⟩ := hs1.moveTo hk1 hdk (hnom_kill d st.h) (by have := hga.n.2; omega)
  have hnn : hnom d ((d, some (.arr E i.size rows true)) :: (k, none) :: hkill d st.h) = true := by
    have := hnom_none (hnom_kill d st.h) k
    simp only [hnom, List.all_cons, Bool.and_eq_true] at this ⊢
    exact ⟨by simp [Ob.ment], this⟩
  obtain ⟨ad, cap, hsv, hcap, had, hs3, hR3⟩ := hs2.shrink hget_same hnn (by have := hga.n.2; omega) hm
  rw [Env.upd_sv] at hsv
  have hrun : (Instr.sliceAt t (a.eval x) none (some (a.eval y)) none).run P w = .ok (.slice ad m cap) w := by
    rw [hxev, hsv, hyev]
    have := run_slice_all' (P := P) p2 p3 ad rows.length cap 0 m none cap none (some (.int kk (m : Int))) none w (.inl ⟨rfl, rfl⟩) (.inr ⟨kk, rfl⟩) (.inl ⟨rfl, rfl⟩) (Nat.zero_le _) hm (by omega) (Nat.le_refl _) hcap
    rw [this]
    congr 2
    cases ad with
    | none => simp
    | some ad =>
      rcases had ad rfl with ⟨h1, h2⟩ | h0
      · obtain ⟨bb, oo, ss⟩ := ad
        simp only at h1 h2
        subst h1; subst h2
        split
        · rfl
        · simp [Addr.add_lit]
      · rw [if_pos h0]
  have hheap : ∀ j, hget ((d, some (.arr E i.size (rows.take m) true)) :: (k, none) :: hkill d st.h) j = hget ((d, some (.arr E i.size (rows.take m) true)) :: (d, some (.arr E i.size rows true)) :: (k, none) :: hkill d st.h) j := fun j => by
    by_cases hjd : j = d
    · subst hjd; rw [hget_same, hget_same]
    · rw [hget_other hjd, hget_other hjd, hget_other hjd]
  have htr : TR (RDx w0 Rd0 ((e.upd d (e.blk k) (e.sv k) (e.lent k)).upd d ((e.upd d (e.blk k) (e.sv k) (e.lent k)).blk d) (.slice ad m cap) 0) ((d, some (.arr E i.size (rows.take m) true)) :: (d, some (.arr E i.size rows true)) :: (k, none) :: hkill d st.h) w) ((e.upd d (e.blk k) (e.sv k) (e.lent k)).upd d ((e.upd d (e.blk k) (e.sv k) (e.lent k)).blk d) (.slice ad m cap) 0) ((d, .ow d) :: tkill d st.t) (a.tmps.setIfInBounds d (.slice ad m cap)) := by
    refine TR.put ?_ (by rw [hga.n.1]; exact hd) ?_
    · have h1' := (((((hga.tr.kill d).mono hR1).mono hR2).env d (tnom_kill d st.t) (e' := e.upd d (e.blk k) (e.sv k) (e.lent k)) (fun _ hi => Env.upd_blk' hi) (fun _ hi => Env.upd_sv' hi)).mono hR3)
      exact h1'.env d (tnom_kill d st.t) (fun _ hi => Env.upd_blk' hi) (fun _ hi => Env.upd_sv' hi)
    · have := VR.ow (Rd := RDx w0 Rd0 ((e.upd d (e.blk k) (e.sv k) (e.lent k)).upd d ((e.upd d (e.blk k) (e.sv k) (e.lent k)).blk d) (.slice ad m cap) 0) ((d, some (.arr E i.size (rows.take m) true)) :: (d, some (.arr E i.size rows true)) :: (k, none) :: hkill d st.h) w) (e := (e.upd d (e.blk k) (e.sv k) (e.lent k)).upd d ((e.upd d (e.blk k) (e.sv k) (e.lent k)).blk d) (.slice ad m cap) 0) (k := d)
      rw [Env.upd_sv] at this
      exact this
  have hga' : Ga w0 Rd0 _ ⟨st.n, (d, .ow d) :: tkill d st.t, _⟩ (a.put (some d) (.slice ad m cap)) w := ⟨by simpa [Act.put] using hga.n, hga.d, hs3, htr⟩
  refine wp_value (w' := w) ?_ (hn _ hK _ _ _ (hga'.ext_heap hheap))
  simp [execOp, Instr.slice, hrun]
end
end Go.Proofs.Ytggnolfcgaglfaa
