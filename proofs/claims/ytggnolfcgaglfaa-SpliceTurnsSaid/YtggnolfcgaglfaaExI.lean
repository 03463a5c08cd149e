/- A frame brought to a form that is given: names, what is owned, what is lent. -/
import Derived.Test.YtggnolfcgaglfaaExH
set_option linter.unusedVariables false
set_option linter.unusedSimpArgs false
namespace Go.Proofs.Ytggnolfcgaglfaa
open Go Go.RowKit
noncomputable section
section
variable {P : Program}
theorem SR.reob {w0 : Bs} {w : World} {Rd0 : Nat → Nat → Value → Prop} {e : Env} {h : Hp} (hs : SR w0 Rd0 e h w) {b : Nat} {o o' : Ob} (hb : hget h b = some o) (ho : OR (RDx w0 Rd0 e h w) e w b o') :
    SR w0 Rd0 e ((b, some o') :: h) w ∧ ∀ b1 o1 u, RDx w0 Rd0 e h w b1 o1 u → RDx w0 Rd0 e ((b, some o') :: h) w b1 o1 u := by
  have old : ∀ j ob, hget ((b, some o') :: h) j = some ob → ∃ ob0, hget h j = some ob0 := fun j ob hj => by
    by_cases hjb : j = b
    · subst hjb; exact ⟨o, hb⟩
    · rw [hget_other hjb] at hj; exact ⟨ob, hj⟩
  have hR : ∀ b1 o1 u, RDx w0 Rd0 e h w b1 o1 u → RDx w0 Rd0 e ((b, some o') :: h) w b1 o1 u := fun b1 o1 u hr => ⟨hr.1, hr.2.1, fun j ob hj hbj => by
    obtain ⟨ob0, h0⟩ := old j ob hj
    exact hr.2.2 j ob0 h0 hbj⟩
  refine ⟨⟨hs.ext, hs.good, fun j ob hj => ?_, fun j ob b1 hj hbj => ?_, fun j j' ob ob' b1 h1 h2 b2 b3 => ?_, hs.pin⟩, hR⟩
  · refine OR.mono hR ?_
    by_cases hjb : j = b
    · subst hjb
      rw [hget_same] at hj
      cases hj
      exact ho
    · rw [hget_other hjb] at hj
      exact hs.ob j ob hj
  · obtain ⟨ob0, h0⟩ := old j ob hj
    exact hs.base j ob0 b1 h0 hbj
  · obtain ⟨ob1, g1⟩ := old j ob h1
    obtain ⟨ob2, g2⟩ := old j' ob' h2
    exact hs.inj j j' ob1 ob2 b1 g1 g2 b2 b3
/-- known as less, slot by slot, object by object -/
theorem SLe.wk {n : Nat} {t t2 : List (Nat × AV)} {h h2 : Hp} (ht : ∀ i, Wk (tget t i) (tget t2 i)) (hh : ∀ k ob', hget h2 k = some ob' → ∃ ob, hget h k = some ob ∧ ∀ Rd e w, OR Rd e w k ob → OR Rd e w k ob') : SLe P ⟨n, t, h⟩ ⟨n, t2, h2⟩ := by
  intro w0 Rd0 e a w hg
  have hR : ∀ b o u, RDx w0 Rd0 e h w b o u → RDx w0 Rd0 e h2 w b o u := fun b o u hr => ⟨hr.1, hr.2.1, fun j ob hj hbj => by
    obtain ⟨ob0, h0, _⟩ := hh j ob hj
    exact hr.2.2 j ob0 h0 hbj⟩
  refine ⟨e, hg.n, hg.d, ⟨hg.sr.ext, hg.sr.good, fun j ob hj => ?_, fun j ob b hj hb => ?_, fun j j' ob ob' b h1 h2' b1 b2 => ?_, hg.sr.pin⟩, fun i => ht i _ _ _ ((hg.tr i).mono hR)⟩
  · obtain ⟨ob0, h0, h1⟩ := hh j ob hj
    exact (h1 _ _ _ (hg.sr.ob j ob0 h0)).mono hR
  · obtain ⟨ob0, h0, _⟩ := hh j ob hj
    exact hg.sr.base j ob0 b h0 hb
  · obtain ⟨ob1, g1, _⟩ := hh j ob h1
    obtain ⟨ob2, g2, _⟩ := hh j' ob' h2'
    exact hg.sr.inj j j' ob1 ob2 b g1 g2 b1 b2
theorem nil_val {Rd : Nat → Nat → Value → Prop} {E : Option Env} {sz0 : Nat} {u : Value} (h : VR Rd E (.sl true sz0 []) u) : ∃ ad, u = .slice ad 0 0 := by
  obtain ⟨ad, cap, us, hav, _, _, _, _, _, ht, _⟩ := h.sl_inv
  have := ht rfl
  simp only [List.length_nil] at this hav
  subst this
  exact ⟨ad, hav⟩
variable {st : St}
/-- a slice with nothing in it, within a struct in a slot, as the call's own -/
theorem SLe.ownAg (i j k : Nat) (hk0 : k < 4294967296) (t : TypeId) (sz : Nat) {sz0 : Nat} {cs : List AV} (hi : tget st.t i = .ag cs) (hj : cs[j]? = some (.sl true sz0 [])) :
    SLe P st ⟨st.n, (i, .ag ((cs.map (AV.kill k)).set j (.ow k))) :: tkill k st.t, (k, some (.arr t sz [] true)) :: hkill k st.h⟩ := by
  intro w0 Rd0 e a w hg
  have hv := hg.tr i
  rw [hi] at hv
  obtain ⟨us, hus, hlr⟩ := VR.ag_inv hv
  obtain ⟨u, huj, hvj⟩ := hlr.get hj
  obtain ⟨ad, rfl⟩ := nil_val hvj
  obtain ⟨hs1, hR1⟩ := hg.sr.kill k
  obtain ⟨hs2, hR2⟩ := hs1.newNil k t sz ad (hnom_kill k st.h) hk0
  refine ⟨_, hg.n, hg.d, hs2, fun q => ?_⟩
  simp only [tget]
  split
  · rename_i hq
    subst hq
    rw [hus]
    have h1 : LR (VR (RDx w0 Rd0 (e.upd k none (.slice ad 0 0) 0) ((k, some (.arr t sz [] true)) :: hkill k st.h) w) (some (e.upd k none (.slice ad 0 0) 0))) (cs.map (AV.kill k)) us :=
      ⟨by simpa using hlr.1, fun m c x hc hx => by
        rw [List.getElem?_map] at hc
        obtain ⟨c0, hc0, rfl⟩ := Option.map_eq_some_iff.1 hc
        exact ((((hlr.2 m c0 x hc0 hx).kill k).mono hR1).mono hR2).env rfl k (kill_ment k c0) (fun _ hi => Env.upd_blk' hi) (fun _ hi => Env.upd_sv' hi)⟩
    have h2 := h1.set j (c := .ow k) (u := .slice ad 0 0) (by
      have := VR.ow (Rd := RDx w0 Rd0 (e.upd k none (.slice ad 0 0) 0) ((k, some (.arr t sz [] true)) :: hkill k st.h) w) (e := e.upd k none (.slice ad 0 0) 0) (k := k)
      rw [Env.upd_sv] at this
      exact this)
    have h3 : us.set j (.slice ad 0 0) = us := by
      obtain ⟨hl, he⟩ := List.getElem?_eq_some_iff.1 huj
      rw [← he]; exact List.set_getElem_self hl
    rw [h3] at h2
    exact .ag us h2.1 h2.2
  · exact ((((hg.tr.kill k).mono hR1).mono hR2).env k (tnom_kill k st.t) (fun _ hi => Env.upd_blk' hi) (fun _ hi => Env.upd_sv' hi)) q
/-- likewise, within a block -/
theorem SLe.ownBx (b j k : Nat) (hk0 : k < 4294967296) (t : TypeId) (sz : Nat) {sz0 : Nat} {bt : TypeId} {cs : List AV} (hb : hget st.h b = some (.box bt cs)) (hj : cs[j]? = some (.sl true sz0 [])) (hbk : b ≠ k) :
    SLe P st ⟨st.n, tkill k st.t, (b, some (.box bt ((cs.map (AV.kill k)).set j (.ow k)))) :: (k, some (.arr t sz [] true)) :: hkill k st.h⟩ := by
  intro w0 Rd0 e a w hg
  obtain ⟨hl0, bb, us, hbb, hus, hlr⟩ := hg.sr.ob _ _ hb
  obtain ⟨u, huj, hvj⟩ := hlr.get hj
  obtain ⟨ad, rfl⟩ := nil_val hvj
  obtain ⟨hs1, hR1⟩ := hg.sr.kill k
  obtain ⟨hs2, hR2⟩ := hs1.newNil k t sz ad (hnom_kill k st.h) hk0
  have h1 : LR (VR (RDx w0 Rd0 (e.upd k none (.slice ad 0 0) 0) ((k, some (.arr t sz [] true)) :: hkill k st.h) w) (some (e.upd k none (.slice ad 0 0) 0))) (cs.map (AV.kill k)) us :=
    ⟨by simpa using hlr.1, fun m c x hc hx => by
      rw [List.getElem?_map] at hc
      obtain ⟨c0, hc0, rfl⟩ := Option.map_eq_some_iff.1 hc
      exact ((((hlr.2 m c0 x hc0 hx).kill k).mono hR1).mono hR2).env rfl k (kill_ment k c0) (fun _ hi => Env.upd_blk' hi) (fun _ hi => Env.upd_sv' hi)⟩
  have h2 := h1.set j (c := .ow k) (u := .slice ad 0 0) (by
    have := VR.ow (Rd := RDx w0 Rd0 (e.upd k none (.slice ad 0 0) 0) ((k, some (.arr t sz [] true)) :: hkill k st.h) w) (e := e.upd k none (.slice ad 0 0) 0) (k := k)
    rw [Env.upd_sv] at this
    exact this)
  have h3 : us.set j (.slice ad 0 0) = us := by
    obtain ⟨hl, he⟩ := List.getElem?_eq_some_iff.1 huj
    rw [← he]; exact List.set_getElem_self hl
  rw [h3] at h2
  obtain ⟨hs3, hR3⟩ := hs2.reob (b := b) (o := (Ob.kill k (.box bt cs))) (o' := .box bt ((cs.map (AV.kill k)).set j (.ow k))) (by rw [hget_other hbk, hget_kill, hb]; rfl)
    ⟨by rw [Env.upd_lent' hbk]; exact hl0, bb, us, by rw [Env.upd_blk' hbk]; exact hbb, hus, h2⟩
  exact ⟨_, hg.n, hg.d, hs3, (((hg.tr.kill k).mono hR1).mono hR2).env k (tnom_kill k st.t) (fun _ hi => Env.upd_blk' hi) (fun _ hi => Env.upd_sv' hi) |>.mono hR3⟩
/-- a row under another name, within a block -/
theorem SLe.moveBx (b j k p : Nat) (hp0 : p < 4294967296) (hpk : p ≠ k) (hbp : b ≠ p) (hbk : b ≠ k) {bt : TypeId} {cs : List AV} {t : TypeId} {sz : Nat} {rows : List (List AV)} {wr : Bool} (hb : hget st.h b = some (.box bt cs)) (hj : cs[j]? = some (.ow k)) (hk : hget st.h k = some (.arr t sz rows wr)) :
    SLe P st ⟨st.n, tkill p st.t, (b, some (.box bt ((cs.map (AV.kill p)).set j (.ow p)))) :: (p, some (.arr t sz rows wr)) :: (k, none) :: hkill p st.h⟩ := by
  intro w0 Rd0 e a w hg
  obtain ⟨hl0, bb, us, hbb, hus, hlr⟩ := hg.sr.ob _ _ hb
  obtain ⟨u, huj, hvj⟩ := hlr.get hj
  cases hvj
  obtain ⟨hs1, hR1⟩ := hg.sr.kill p
  obtain ⟨hs2, hR2⟩ := hs1.moveTo (k := k) (d := p) (ob := .arr t sz rows wr) (by rw [hget_kill, hk]; rfl) hpk (hnom_kill p st.h) hp0
  have h1 : LR (VR (RDx w0 Rd0 (e.upd p (e.blk k) (e.sv k) (e.lent k)) ((p, some (.arr t sz rows wr)) :: (k, none) :: hkill p st.h) w) (some (e.upd p (e.blk k) (e.sv k) (e.lent k)))) (cs.map (AV.kill p)) us :=
    ⟨by simpa using hlr.1, fun m c x hc hx => by
      rw [List.getElem?_map] at hc
      obtain ⟨c0, hc0, rfl⟩ := Option.map_eq_some_iff.1 hc
      exact ((((hlr.2 m c0 x hc0 hx).kill p).mono hR1).mono hR2).env rfl p (kill_ment p c0) (fun _ hi => Env.upd_blk' hi) (fun _ hi => Env.upd_sv' hi)⟩
  have h2 := h1.set j (c := .ow p) (u := e.sv k) (by
    have := VR.ow (Rd := RDx w0 Rd0 (e.upd p (e.blk k) (e.sv k) (e.lent k)) ((p, some (.arr t sz rows wr)) :: (k, none) :: hkill p st.h) w) (e := e.upd p (e.blk k) (e.sv k) (e.lent k)) (k := p)
    rw [Env.upd_sv] at this
    exact this)
  have h3 : us.set j (e.sv k) = us := by
    obtain ⟨hl, he⟩ := List.getElem?_eq_some_iff.1 huj
    rw [← he]; exact List.set_getElem_self hl
  rw [h3] at h2
  obtain ⟨hs3, hR3⟩ := hs2.reob (b := b) (o := (Ob.kill p (.box bt cs))) (o' := .box bt ((cs.map (AV.kill p)).set j (.ow p))) (by rw [hget_other hbp, hget_other hbk, hget_kill, hb]; rfl)
    ⟨by rw [Env.upd_lent' hbp]; exact hl0, bb, us, by rw [Env.upd_blk' hbp]; exact hbb, hus, h2⟩
  exact ⟨_, hg.n, hg.d, hs3, (((hg.tr.kill p).mono hR1).mono hR2).env p (tnom_kill p st.t) (fun _ hi => Env.upd_blk' hi) (fun _ hi => Env.upd_sv' hi) |>.mono hR3⟩
/-- a row under another name, in a slot -/
theorem SLe.moveSl (i k p : Nat) (hp0 : p < 4294967296) (hpk : p ≠ k) {t : TypeId} {sz : Nat} {rows : List (List AV)} {wr : Bool} (hi : tget st.t i = .ow k) (hk : hget st.h k = some (.arr t sz rows wr)) :
    SLe P st ⟨st.n, (i, .ow p) :: tkill p st.t, (p, some (.arr t sz rows wr)) :: (k, none) :: hkill p st.h⟩ := by
  intro w0 Rd0 e a w hg
  have hv := hg.tr i
  rw [hi] at hv
  obtain ⟨hs1, hR1⟩ := hg.sr.kill p
  obtain ⟨hs2, hR2⟩ := hs1.moveTo (k := k) (d := p) (ob := .arr t sz rows wr) (by rw [hget_kill, hk]; rfl) hpk (hnom_kill p st.h) hp0
  refine ⟨_, hg.n, hg.d, hs2, fun q => ?_⟩
  simp only [tget]
  split
  · rename_i hq
    subst hq
    generalize a.tmps.getD q undef = u at hv
    cases hv
    have := VR.ow (Rd := RDx w0 Rd0 (e.upd p (e.blk k) (e.sv k) (e.lent k)) ((p, some (.arr t sz rows wr)) :: (k, none) :: hkill p st.h) w) (e := e.upd p (e.blk k) (e.sv k) (e.lent k)) (k := p)
    rw [Env.upd_sv] at this
    exact this
  · exact ((((hg.tr.kill p).mono hR1).mono hR2).env p (tnom_kill p st.t) (fun _ hi => Env.upd_blk' hi) (fun _ hi => Env.upd_sv' hi)) q
/-- an object's slice, handed out within a struct in a slot -/
theorem SLe.lendAg (i j : Nat) {k : Nat} {t : TypeId} {sz : Nat} {rows : List (List AV)} {wr : Bool} {cs : List AV} (hi : tget st.t i = .ag cs) (hj : cs[j]? = some (.ow k)) (hk : hget st.h k = some (.arr t sz rows wr)) :
    SLe P st ⟨st.n, (i, .ag (cs.set j (.sl false sz rows))) :: st.t, (k, some (.arr t sz rows false)) :: st.h⟩ := by
  intro w0 Rd0 e a w hg
  obtain ⟨e', h1, h2, h3, h4, h5⟩ := hg.sr.lend hk
  have hg' := hg.lent (⟨h1, h2, h3, h4⟩ : Lent w0 Rd0 e st.h w e' ((k, some (.arr t sz rows false)) :: st.h))
  refine ⟨e', hg'.n, hg'.d, hg'.sr, fun q => ?_⟩
  simp only [tget]
  split
  · rename_i hq
    subst hq
    have hv := hg.tr q
    rw [hi] at hv
    obtain ⟨us, hus, hlr⟩ := VR.ag_inv hv
    rw [hus]
    obtain ⟨u, huj, hvj⟩ := hlr.get hj
    cases hvj
    have hl' : LR (VR (RDx w0 Rd0 e' ((k, some (.arr t sz rows false)) :: st.h) w) (some e')) cs us := hlr.imp fun _ _ hv => (hv.mono h2).envEq rfl h3 h4
    have := hl'.set j (c := .sl false sz rows) (u := e.sv k) h5.some_of_none
    have h6 : us.set j (e.sv k) = us := by
      obtain ⟨hl, he⟩ := List.getElem?_eq_some_iff.1 huj
      rw [← he]; exact List.set_getElem_self hl
    rw [h6] at this
    exact .ag us this.1 this.2
  · exact hg'.tr q
/-- likewise, within a block -/
theorem SLe.lendBx (b j : Nat) {k : Nat} {t : TypeId} {sz : Nat} {rows : List (List AV)} {wr : Bool} {bt : TypeId} {cs : List AV} (hb : hget st.h b = some (.box bt cs)) (hj : cs[j]? = some (.ow k)) (hk : hget st.h k = some (.arr t sz rows wr)) :
    SLe P st ⟨st.n, st.t, (b, some (.box bt (cs.set j (.sl false sz rows)))) :: (k, some (.arr t sz rows false)) :: st.h⟩ := by
  intro w0 Rd0 e a w hg
  have hbk : b ≠ k := fun e => by rw [e, hk] at hb; cases hb
  obtain ⟨e', h1, h2, h3, h4, h5⟩ := hg.sr.lend hk
  have hg' := hg.lent (⟨h1, h2, h3, h4⟩ : Lent w0 Rd0 e st.h w e' ((k, some (.arr t sz rows false)) :: st.h))
  have hb' : hget ((k, some (Ob.arr t sz rows false)) :: st.h) b = some (.box bt cs) := by rw [hget_other hbk]; exact hb
  obtain ⟨hl0, bb, us, hbb, hus, hlr⟩ := hg'.sr.ob _ _ hb'
  obtain ⟨u, huj, hvj⟩ := hlr.get hj
  cases hvj
  have := hlr.set j (c := .sl false sz rows) (u := e'.sv k) (by rw [h4]; exact h5.some_of_none)
  have h6 : us.set j (e'.sv k) = us := by
    obtain ⟨hl, he⟩ := List.getElem?_eq_some_iff.1 huj
    rw [← he]; exact List.set_getElem_self hl
  rw [h6] at this
  obtain ⟨hs3, hR3⟩ := hg'.sr.reob hb' (o' := .box bt (cs.set j (.sl false sz rows))) ⟨hl0, bb, us, hbb, hus, this⟩
  exact ⟨e', hg'.n, hg'.d, hs3, hg'.tr.mono hR3⟩
/-- a cell with nothing in it, as the call's own -/
theorem SLe.ownNr (b j k : Nat) (hk0 : k < 4294967296) (t : TypeId) (sz : Nat) {sz0 : Nat} {bt : TypeId} {cs : List AV} (hb : hget st.h b = some (.nr bt cs)) (hj : cs[j]? = some (.sl true sz0 [])) (hbk : b ≠ k) :
    SLe P st ⟨st.n, tkill k st.t, (b, some (.nr bt ((cs.map (AV.kill k)).set j (.ow k)))) :: (k, some (.arr t sz [] true)) :: hkill k st.h⟩ := by
  intro w0 Rd0 e a w hg
  obtain ⟨hl0, hrow⟩ := hg.sr.ob _ _ hb
  have hj0 : j < cs.length := (List.getElem?_eq_some_iff.1 hj).1
  rcases hrow with ⟨hnil, _⟩ | ⟨bb, cap, cur, hbb, hsv, hcap, hm, hcur, hcs, hlr⟩
  · subst hnil; simp at hj0
  obtain ⟨u, huj, hvj⟩ := hlr.get hj
  obtain ⟨ad, cap0, us0, hav, _, _, _, _, _, htt, _⟩ := hvj.sl_inv
  have hc0 := htt rfl
  simp only [List.length_nil] at hc0 hav
  subst hc0
  subst hav
  obtain ⟨hs1, hR1⟩ := hg.sr.kill k
  obtain ⟨hs2, hR2⟩ := hs1.newNil k t sz ad (hnom_kill k st.h) hk0
  have h1 : LR (VR (RDx w0 Rd0 (e.upd k none (.slice ad 0 0) 0) ((k, some (.arr t sz [] true)) :: hkill k st.h) w) (some (e.upd k none (.slice ad 0 0) 0))) (cs.map (AV.kill k)) (cur.toList.take cs.length) :=
    ⟨by simpa using hlr.1, fun m c x hc hx => by
      rw [List.getElem?_map] at hc
      obtain ⟨c0, hc0, rfl⟩ := Option.map_eq_some_iff.1 hc
      exact ((((hlr.2 m c0 x hc0 hx).kill k).mono hR1).mono hR2).env rfl k (kill_ment k c0) (fun _ hi => Env.upd_blk' hi) (fun _ hi => Env.upd_sv' hi)⟩
  have h2 := h1.set j (c := .ow k) (u := .slice ad 0 0) (by
    have := VR.ow (Rd := RDx w0 Rd0 (e.upd k none (.slice ad 0 0) 0) ((k, some (.arr t sz [] true)) :: hkill k st.h) w) (e := e.upd k none (.slice ad 0 0) 0) (k := k)
    rw [Env.upd_sv] at this
    exact this)
  have h3 : (cur.toList.take cs.length).set j (.slice ad 0 0) = cur.toList.take cs.length := by
    obtain ⟨hl, he⟩ := List.getElem?_eq_some_iff.1 huj
    rw [← he]; exact List.set_getElem_self hl
  rw [h3] at h2
  have hln : ((cs.map (AV.kill k)).set j (.ow k)).length = cs.length := by simp
  have hold : hget ((k, some (Ob.arr t sz [] true)) :: hkill k st.h) b = some (Ob.kill k (.nr bt cs)) := by rw [hget_other hbk, hget_kill, hb]; rfl
  have hob : OR (RDx w0 Rd0 (e.upd k none (.slice ad 0 0) 0) ((k, some (.arr t sz [] true)) :: hkill k st.h) w) (e.upd k none (.slice ad 0 0) 0) w b (.nr bt ((cs.map (AV.kill k)).set j (.ow k))) :=
    ⟨by rw [Env.upd_lent' hbk]; exact hl0, .inr ⟨bb, cap, cur, by rw [Env.upd_blk' hbk]; exact hbb, by rw [Env.upd_sv' hbk, hln]; exact hsv, by rw [hln]; exact hcap, hm, hcur, hcs, by rw [hln]; exact h2⟩⟩
  obtain ⟨hs3, hR3⟩ := hs2.reob hold hob
  exact ⟨_, hg.n, hg.d, hs3, (((hg.tr.kill k).mono hR1).mono hR2).env k (tnom_kill k st.t) (fun _ hi => Env.upd_blk' hi) (fun _ hi => Env.upd_sv' hi) |>.mono hR3⟩
/-- a cell's slice, handed out -/
theorem SLe.lendNr (b j : Nat) {k : Nat} {t : TypeId} {sz : Nat} {rows : List (List AV)} {wr : Bool} {bt : TypeId} {cs : List AV} (hb : hget st.h b = some (.nr bt cs)) (hj : cs[j]? = some (.ow k)) (hk : hget st.h k = some (.arr t sz rows wr)) :
    SLe P st ⟨st.n, st.t, (b, some (.nr bt (cs.set j (.sl false sz rows)))) :: (k, some (.arr t sz rows false)) :: st.h⟩ := by
  intro w0 Rd0 e a w hg
  have hbk : b ≠ k := fun e => by rw [e, hk] at hb; cases hb
  obtain ⟨e', h1, h2, h3, h4, h5⟩ := hg.sr.lend hk
  have hg' := hg.lent (⟨h1, h2, h3, h4⟩ : Lent w0 Rd0 e st.h w e' ((k, some (.arr t sz rows false)) :: st.h))
  have hb' : hget ((k, some (Ob.arr t sz rows false)) :: st.h) b = some (.nr bt cs) := by rw [hget_other hbk]; exact hb
  obtain ⟨hl0, hrow⟩ := hg'.sr.ob _ _ hb'
  have hj0 : j < cs.length := (List.getElem?_eq_some_iff.1 hj).1
  rcases hrow with ⟨hnil, _⟩ | ⟨bb, cap, cur, hbb, hsv, hcap, hm, hcur, hcs, hlr⟩
  · subst hnil; simp at hj0
  obtain ⟨u, huj, hvj⟩ := hlr.get hj
  cases hvj
  have := hlr.set j (c := .sl false sz rows) (u := e'.sv k) (by rw [h4]; exact h5.some_of_none)
  have h6 : (cur.toList.take cs.length).set j (e'.sv k) = cur.toList.take cs.length := by
    obtain ⟨hl, he⟩ := List.getElem?_eq_some_iff.1 huj
    rw [← he]; exact List.set_getElem_self hl
  rw [h6] at this
  have hln : (cs.set j (.sl false sz rows)).length = cs.length := by simp
  obtain ⟨hs3, hR3⟩ := hg'.sr.reob hb' (o' := .nr bt (cs.set j (.sl false sz rows))) ⟨hl0, .inr ⟨bb, cap, cur, hbb, by rw [hln]; exact hsv, by rw [hln]; exact hcap, hm, hcur, hcs, by rw [hln]; exact this⟩⟩
  exact ⟨e', hg'.n, hg'.d, hs3, hg'.tr.mono hR3⟩
end

/-! ### reckoning -/
def renT (π : Nat → Nat) : List (Nat × EV) → List (Nat × EV)
  | [] => []
  | (i, c) :: t => (i, renE π c) :: renT π t
theorem encT_ren (π : Nat → Nat) : ∀ t, encT (renT π t) = tren π (encT t)
  | [] => rfl
  | (i, c) :: t => by simp only [renT, encT, tren, enc_ren, encT_ren π t]
def swpB (a b k : Nat) : Nat := cond (Nat.beq k a) b (cond (Nat.beq k b) a k)
theorem swpB_eq (a b : Nat) : swpB a b = swp a b := by
  funext k
  unfold swpB swp
  by_cases h1 : k = a
  · subst h1; rw [Nat.beq_refl]; simp
  · rw [beq_no h1, if_neg h1]
    by_cases h2 : k = b
    · subst h2; rw [Nat.beq_refl]; simp
    · rw [beq_no h2, if_neg h2]; rfl
def swapE (a b : Nat) (E : ESt) : ESt := ⟨E.n, renT (swpB a b) E.t, renEH (swpB a b) E.h⟩
def killE (k : Nat) (c : EV) : EV := cond ((enc c).ment k) .un c
theorem enc_kill (k : Nat) (c : EV) : enc (killE k c) = (enc c).kill k := by
  unfold killE AV.kill
  cases (enc c).ment k <;> rfl
def killT (k : Nat) : List (Nat × EV) → List (Nat × EV)
  | [] => []
  | (i, c) :: t => (i, killE k c) :: killT k t
theorem encT_kill (k : Nat) : ∀ t, encT (killT k t) = tkill k (encT t)
  | [] => rfl
  | (i, c) :: t => by simp only [killT, encT, tkill, enc_kill, encT_kill k t]
def killHo (k : Nat) : Option (Int × Option Nat) → Option (Int × Option Nat)
  | some (i, some j) => cond (Nat.beq j k) (some (i, none)) (some (i, some j))
  | o => o
def killO (k : Nat) : EOb → EOb
  | .box t cs => .box t (cs.map (killE k))
  | .arr t r xs wr => .arr t r xs wr
  | .mp d kc vc es => .mp d kc vc es
  | .nr t r xs ho => .nr t r xs (killHo k ho)
theorem encL_kill (k : Nat) (cs : List EV) : encL (cs.map (killE k)) = (encL cs).map (AV.kill k) := by
  rw [encL_map, encL_map, List.map_map, List.map_map]
  exact List.map_congr_left fun c _ => enc_kill k c
theorem nrC_kill (k : Nat) (r : Sc) (xs : List (List r.Val)) (ho : Option (Int × Option Nat)) : nrC r xs (killHo k ho) = (nrC r xs ho).map (AV.kill k) := by
  have h0 : (xs.map (nrA r)).map (AV.kill k) = xs.map (nrA r) := by
    rw [List.map_map]
    exact List.map_congr_left fun x _ => by cases x <;> rfl
  match ho with
  | none => exact h0.symm
  | some (i, none) => simp only [killHo, nrC, List.map_set, h0]; rfl
  | some (i, some j) =>
    simp only [killHo, nrC, List.map_set, h0]
    by_cases h : j = k
    · subst h
      rw [Nat.beq_refl]
      simp [nrH, AV.kill, AV.ment]
    · rw [beq_no h]
      simp [nrH, AV.kill, AV.ment, h]
theorem encO_kill (k : Nat) (o : EOb) : encO (killO k o) = (encO o).kill k := by
  cases o with
  | box t cs => simp only [killO, encO, Ob.kill, encL_kill]
  | arr => rfl
  | mp => rfl
  | nr t r xs ho => simp only [killO, encO, Ob.kill, nrC_kill]
def killH (k : Nat) : EHp → EHp
  | [] => []
  | (j, o) :: h => (j, match o with
    | some o => some (killO k o)
    | none => none) :: killH k h
theorem encH_kill (k : Nat) : ∀ h, encH (killH k h) = hkill k (encH h)
  | [] => rfl
  | (j, o) :: h => by
    cases o with
    | none => simp only [killH, encH, hkill, Option.map, encH_kill k h]
    | some o => simp only [killH, encH, hkill, Option.map, encH_kill k h, encO_kill]
def ownE (i p : Nat) (t : TypeId) (r : Sc) (E : ESt) : ESt := ⟨E.n, (i, .ow p) :: killT p E.t, (p, some (.arr t r [] true)) :: killH p E.h⟩
def pget : List (Nat × PO) → Nat → Option PO
  | [], _ => none
  | (j, o) :: t, i => cond (Nat.beq i j) (some o) (pget t i)
def swapG (a b : Nat) (E : ESt) : ESt := cond (Nat.blt a 4294967296 && Nat.blt b 4294967296) (swapE a b E) E
/-- a handed row takes a name of its own -/
def moveS (i k p : Nat) (E : ESt) : ESt := match ehget E.h k with
  | some (.arr t r xs wr) => cond (Nat.blt k 4294967296 || !(Nat.blt p 4294967296)) (swapG k p E) ⟨E.n, (i, .ow p) :: killT p E.t, (p, some (.arr t r xs wr)) :: (k, none) :: killH p E.h⟩
  | _ => swapG k p E
def moveB (b j k p : Nat) (bt : TypeId) (cs : List EV) (E : ESt) : ESt := match ehget E.h k with
  | some (.arr t r xs wr) => cond (Nat.blt k 4294967296 || !(Nat.blt p 4294967296) || Nat.beq b p || Nat.beq b k) (swapG k p E) ⟨E.n, killT p E.t, (b, some (.box bt ((cs.map (killE p)).set j (.ow p)))) :: (p, some (.arr t r xs wr)) :: (k, none) :: killH p E.h⟩
  | _ => swapG k p E
/-- one slot's name -/
def nameS (ph : List (Nat × PO)) (i : Nat) (pv : PV) (E : ESt) : ESt :=
  match pv with
  | .k c => match c with
    | .ow p => match eget E.t i with
      | .ow k => cond (Nat.beq k p) E (moveS i k p E)
      | .nil => match pget ph p with
        | some (.arr t r _) => cond (Nat.blt i E.n && Nat.blt p 4294967296) (ownE i p t r E) E
        | _ => E
      | _ => E
    | .pt p _ => match eget E.t i with
      | .pt k _ => cond (Nat.beq k p) E (swapG k p E)
      | _ => E
    | .mp p => match eget E.t i with
      | .mp k => cond (Nat.beq k p) E (swapG k p E)
      | _ => E
    | _ => E
  | .h _ => match eget E.t i with
    | .ow k => match ehget E.h k with
      | some (.arr t r xs _) => ⟨E.n, (i, .sc (.sl r) xs) :: E.t, (k, some (.arr t r xs false)) :: E.h⟩
      | _ => E
    | _ => E
  | _ => E
/-- a struct's in a slot, cell j -/
def nameA (ph : List (Nat × PO)) (i j : Nat) (pv : PV) (E : ESt) : ESt :=
  match eget E.t i with
  | .ag cs => match cs[j]? with
    | some c => match pv with
      | .k c0 => match c0 with
        | .ow p => match c with
          | .ow k => cond (Nat.beq k p) E (swapG k p E)
          | .nil => match pget ph p with
            | some (.arr t r _) => cond (Nat.blt p 4294967296) ⟨E.n, (i, .ag ((cs.map (killE p)).set j (.ow p))) :: killT p E.t, (p, some (.arr t r [] true)) :: killH p E.h⟩ E
            | _ => E
          | _ => E
        | _ => E
      | .h _ => match c with
        | .ow k => match ehget E.h k with
          | some (.arr t r xs _) => ⟨E.n, (i, .ag (cs.set j (.sc (.sl r) xs))) :: E.t, (k, some (.arr t r xs false)) :: E.h⟩
          | _ => E
        | _ => E
      | _ => E
    | none => E
  | _ => E
/-- a block's, cell j -/
def nameB (ph : List (Nat × PO)) (b j : Nat) (pv : PV) (E : ESt) : ESt :=
  match ehget E.h b with
  | some (.box bt cs) => match cs[j]? with
    | some c => match pv with
      | .k c0 => match c0 with
        | .ow p => match c with
          | .ow k => cond (Nat.beq k p) E (moveB b j k p bt cs E)
          | .nil => match pget ph p with
            | some (.arr t r _) => cond (Nat.beq b p || !(Nat.blt p 4294967296)) E ⟨E.n, killT p E.t, (b, some (.box bt ((cs.map (killE p)).set j (.ow p)))) :: (p, some (.arr t r [] true)) :: killH p E.h⟩
            | _ => E
          | _ => E
        | .pt p _ => match c with
          | .pt k _ => cond (Nat.beq k p) E (swapG k p E)
          | _ => E
        | .mp p => match c with
          | .mp k => cond (Nat.beq k p) E (swapG k p E)
          | _ => E
        | _ => E
      | .h _ => match c with
        | .ow k => match ehget E.h k with
          | some (.arr t r xs _) => ⟨E.n, E.t, (b, some (.box bt (cs.set j (.sc (.sl r) xs)))) :: (k, some (.arr t r xs false)) :: E.h⟩
          | _ => E
        | _ => E
      | _ => E
    | none => E
  | _ => E
/-- a name that is asked for what is still nil is made free -/
def freeP (p : Nat) (E : ESt) : ESt := match ehget E.h p with
  | some _ => swapG p (4000000 + p) E
  | none => E
def nilF (pv : PV) (c : EV) (E : ESt) : ESt := match pv with
  | .k c0 => match c0 with
    | .ow p => match c with
      | .nil => freeP p E
      | _ => E
    | _ => E
  | _ => E
def cellA (i j : Nat) (E : ESt) : EV := match eget E.t i with
  | .ag cs => (cs[j]?).getD .un
  | _ => .un
def cellB (b j : Nat) (E : ESt) : EV := match ehget E.h b with
  | some (.box _ cs) => (cs[j]?).getD .un
  | _ => .un
def nameAs (ph : List (Nat × PO)) (i : Nat) : Nat → List PV → ESt → ESt
  | _, [], E => E
  | j, p :: ps, E => nameAs ph i (j + 1) ps (nameA ph i j p (nilF p (cellA i j E) E))
def nameBs (ph : List (Nat × PO)) (b : Nat) : Nat → List PV → ESt → ESt
  | _, [], E => E
  | j, p :: ps, E => nameBs ph b (j + 1) ps (nameB ph b j p (nilF p (cellB b j E) E))
/-- what a function in a slot holds -/
def cellC (i j : Nat) (E : ESt) : EV := match eget E.t i with
  | .cl _ fs cs => ((fs ++ cs)[j]?).getD .un
  | _ => .un
def nameC (i j : Nat) (pv : PV) (E : ESt) : ESt := match pv with
  | .k c0 => match c0 with
    | .ow p => match cellC i j E with
      | .ow k => cond (Nat.beq k p) E (swapG k p E)
      | _ => E
    | .pt p _ => match cellC i j E with
      | .pt k _ => cond (Nat.beq k p) E (swapG k p E)
      | _ => E
    | .mp p => match cellC i j E with
      | .mp k => cond (Nat.beq k p) E (swapG k p E)
      | _ => E
    | _ => E
  | _ => E
def nameCs (i : Nat) : Nat → List PV → ESt → ESt
  | _, [], E => E
  | j, p :: ps, E => nameCs i (j + 1) ps (nameC i j p E)
def nameT (ph : List (Nat × PO)) : List (Nat × PV) → ESt → ESt
  | [], E => E
  | (i, pv) :: t, E => nameT ph t (match pv with
    | .ag l => nameAs ph i 0 l E
    | .cl _ fs cs => nameCs i 0 (fs ++ cs) E
    | pv => nameS ph i pv (nilF pv (eget E.t i) E))
/-- the name of the slice that is taken out of a row -/
def nameN (k p : Nat) (E : ESt) : ESt := match ehget E.h k with
  | some (.nr _ _ _ (some (_, some j))) => cond (Nat.beq j p) E (swapG j p E)
  | _ => E
def nameH (ph : List (Nat × PO)) : List (Nat × PO) → ESt → ESt
  | [], E => E
  | (k, o) :: h, E => nameH ph h (match o with
    | .box _ l => nameBs ph k 0 l E
    | .nr _ _ (some (_, p)) => nameN k p E
    | _ => E)
section
variable {P : Program}
theorem SLe.of_eq {s1 s2 : St} (h : s1 = s2) : SLe P s1 s2 := h ▸ SLe.refl
theorem swapE_ok0 (a b : Nat) (ha : a < 4294967296) (hb : b < 4294967296) (E : ESt) : SLe P (encE E) (encE (swapE a b E)) := by
  have := SLe.swap (P := P) (st := encE E) a b ha hb
  simp only [encE, swapE, encT_ren, encH_ren, swpB_eq] at this ⊢
  exact this
theorem swapE_ok (a b : Nat) (E : ESt) : SLe P (encE E) (encE (swapG a b E)) := by
  unfold swapG
  cases h : (Nat.blt a 4294967296 && Nat.blt b 4294967296) with
  | false => exact SLe.refl
  | true =>
    simp only [Bool.and_eq_true] at h
    exact swapE_ok0 a b (Nat.le_of_ble_eq_true h.1) (Nat.le_of_ble_eq_true h.2) E
theorem condE {b : Bool} {x y : ESt} {s : St} (hx : SLe P s (encE x)) (hy : SLe P s (encE y)) : SLe P s (encE (cond b x y)) := by
  cases b
  · exact hy
  · exact hx
theorem ehget_ok {E : ESt} {k : Nat} {o : EOb} (h : ehget E.h k = some o) : hget (encE E).h k = some (encO o) := by
  show hget (encH E.h) k = _
  rw [hget_enc, h]; rfl
theorem eget_ok {E : ESt} {i : Nat} {c : EV} (h : eget E.t i = c) : tget (encE E).t i = enc c := by
  show tget (encT E.t) i = _
  rw [tget_enc, h]
theorem moveS_ok (i k p : Nat) (E : ESt) (hi : eget E.t i = .ow k) (hpk : (Nat.beq k p) = false) : SLe P (encE E) (encE (moveS i k p E)) := by
  unfold moveS
  split
  · rename_i t r xs wr hk
    cases hb : (Nat.blt k 4294967296 || !(Nat.blt p 4294967296)) with
    | true => exact swapE_ok _ _ _
    | false =>
      simp only [Bool.or_eq_false_iff, Bool.not_eq_false'] at hb
      have hne : p ≠ k := fun e => by rw [e, Nat.beq_refl] at hpk; cases hpk
      have := SLe.moveSl (P := P) (st := encE E) i k p (Nat.le_of_ble_eq_true hb.2) hne (eget_ok hi) (ehget_ok hk)
      simp only [encE, encT, encH, encT_kill, encH_kill, Option.map, encO, enc, cond_false] at this ⊢
      exact this
  · exact swapE_ok _ _ _
theorem encL_get0 {cs : List EV} {j : Nat} {c : EV} (h : cs[j]? = some c) : (encL cs)[j]? = some (enc c) := by rw [encL_map, List.getElem?_map, h]; rfl
theorem moveB_ok (b j k p : Nat) (bt : TypeId) (cs : List EV) (E : ESt) (hb : ehget E.h b = some (.box bt cs)) (hj : cs[j]? = some (.ow k)) (hpk : (Nat.beq k p) = false) : SLe P (encE E) (encE (moveB b j k p bt cs E)) := by
  unfold moveB
  split
  · rename_i t r xs wr hk
    cases hq : (Nat.blt k 4294967296 || !(Nat.blt p 4294967296) || Nat.beq b p || Nat.beq b k) with
    | true => exact swapE_ok _ _ _
    | false =>
      simp only [Bool.or_eq_false_iff, Bool.not_eq_false'] at hq
      have hne : p ≠ k := fun e => by rw [e, Nat.beq_refl] at hpk; cases hpk
      have h1 : b ≠ p := fun e => by have := hq.1.2; rw [e, Nat.beq_refl] at this; cases this
      have h2 : b ≠ k := fun e => by have := hq.2; rw [e, Nat.beq_refl] at this; cases this
      have := SLe.moveBx (P := P) (st := encE E) b j k p (Nat.le_of_ble_eq_true hq.1.1.2) hne h1 h2 (ehget_ok hb) (encL_get0 hj) (ehget_ok hk)
      simp only [encE, encT, encH, encT_kill, encH_kill, Option.map, encO, enc, encL_set, encL_kill, cond_false] at this ⊢
      exact this
  · exact swapE_ok _ _ _
theorem condE' {b : Bool} {x y : ESt} {s : St} (hx : SLe P s (encE x)) (hy : b = false → SLe P s (encE y)) : SLe P s (encE (cond b x y)) := by
  cases b with
  | true => exact hx
  | false => exact hy rfl
theorem nameS_ok (ph : List (Nat × PO)) (i : Nat) (pv : PV) (E : ESt) : SLe P (encE E) (encE (nameS ph i pv E)) := by
  unfold nameS
  split
  · split
    · split
      · rename_i k hk
        exact condE' SLe.refl fun hp => moveS_ok _ _ _ _ hk hp
      · rename_i hn
        split
        · rename_i p _ _ t r wr _
          cases hb : (Nat.blt i E.n && Nat.blt p 4294967296) with
          | false => exact SLe.refl
          | true =>
            simp only [Bool.and_eq_true] at hb
            have := SLe.own (P := P) (st := encE E) i p (Nat.le_of_ble_eq_true hb.2) t r.w (eget_ok hn) (Nat.le_of_ble_eq_true hb.1)
            simp only [ownE, encE, encT, encH, encT_kill, encH_kill, Option.map, encO, enc, List.map_nil, cond_true] at this ⊢
            exact this
        · exact SLe.refl
      · exact SLe.refl
    · split
      · exact condE SLe.refl (swapE_ok _ _ _)
      · exact SLe.refl
    · split
      · exact condE SLe.refl (swapE_ok _ _ _)
      · exact SLe.refl
    · exact SLe.refl
  · split
    · rename_i k hk
      split
      · rename_i t r xs wr ho
        refine SLe.lend (P := P) (st := encE E) i (c := .sl false r.w (List.map (encC r) xs)) ?_
        rw [eget_ok hk]
        simp only [enc, lendA, lendC, ehget_ok ho, encO]
        rfl
      · exact SLe.refl
    · exact SLe.refl
  · exact SLe.refl
theorem encL_get {cs : List EV} {j : Nat} {c : EV} (h : cs[j]? = some c) : (encL cs)[j]? = some (enc c) := by rw [encL_map, List.getElem?_map, h]; rfl
theorem nameA_ok (ph : List (Nat × PO)) (i j : Nat) (pv : PV) (E : ESt) : SLe P (encE E) (encE (nameA ph i j pv E)) := by
  unfold nameA
  split
  · rename_i cs hcs
    split
    · rename_i c hc
      split
      · split
        · split
          · exact condE SLe.refl (swapE_ok _ _ _)
          · split
            · rename_i p _ _ t r wr _
              cases hb : Nat.blt p 4294967296 with
              | false => exact SLe.refl
              | true =>
                have := SLe.ownAg (P := P) (st := encE E) i j p (Nat.le_of_ble_eq_true hb) t r.w (eget_ok hcs) (encL_get hc)
                simp only [encE, encT, encH, encT_kill, encH_kill, Option.map, encO, enc, List.map_nil, encL_set, encL_kill, cond_true] at this ⊢
                exact this
            · exact SLe.refl
          · exact SLe.refl
        · exact SLe.refl
      · split
        · rename_i k
          split
          · rename_i t r xs wr ho
            have := SLe.lendAg (P := P) (st := encE E) i j (eget_ok hcs) (encL_get hc) (ehget_ok ho)
            simp only [encE, encT, encH, Option.map, encO, enc, encL_set, encS] at this ⊢
            exact this
          · exact SLe.refl
        · exact SLe.refl
      · exact SLe.refl
    · exact SLe.refl
  · exact SLe.refl
theorem nameB_ok (ph : List (Nat × PO)) (b j : Nat) (pv : PV) (E : ESt) : SLe P (encE E) (encE (nameB ph b j pv E)) := by
  unfold nameB
  split
  · rename_i bt cs hcs
    split
    · rename_i c hc
      split
      · split
        · split
          · exact condE' SLe.refl fun hp => moveB_ok _ _ _ _ _ _ _ hcs hc hp
          · split
            · rename_i p _ _ t r wr _
              cases hb : (Nat.beq b p || !(Nat.blt p 4294967296)) with
              | true => exact SLe.refl
              | false =>
                simp only [Bool.or_eq_false_iff, Bool.not_eq_false'] at hb
                have hbp : b ≠ p := fun e => by have := hb.1; rw [e, Nat.beq_refl] at this; cases this
                have := SLe.ownBx (P := P) (st := encE E) b j p (Nat.le_of_ble_eq_true hb.2) t r.w (ehget_ok hcs) (encL_get hc) hbp
                simp only [encE, encT, encH, encT_kill, encH_kill, Option.map, encO, enc, List.map_nil, encL_set, encL_kill, cond_false] at this ⊢
                exact this
            · exact SLe.refl
          · exact SLe.refl
        · split
          · exact condE SLe.refl (swapE_ok _ _ _)
          · exact SLe.refl
        · split
          · exact condE SLe.refl (swapE_ok _ _ _)
          · exact SLe.refl
        · exact SLe.refl
      · split
        · rename_i k
          split
          · rename_i t r xs wr ho
            have := SLe.lendBx (P := P) (st := encE E) b j (ehget_ok hcs) (encL_get hc) (ehget_ok ho)
            simp only [encE, encT, encH, Option.map, encO, enc, encL_set, encS] at this ⊢
            exact this
          · exact SLe.refl
        · exact SLe.refl
      · exact SLe.refl
    · exact SLe.refl
  · exact SLe.refl
theorem nilF_ok (pv : PV) (c : EV) (E : ESt) : SLe P (encE E) (encE (nilF pv c E)) := by
  unfold nilF
  split
  · split
    · split
      · unfold freeP
        split
        · exact swapE_ok _ _ _
        · exact SLe.refl
      · exact SLe.refl
    · exact SLe.refl
  · exact SLe.refl
theorem nameAs_ok (ph : List (Nat × PO)) (i : Nat) : ∀ (ps : List PV) (j : Nat) (E : ESt), SLe P (encE E) (encE (nameAs ph i j ps E))
  | [], _, _ => SLe.refl
  | p :: ps, j, E => ((nilF_ok p _ E).trans (nameA_ok ph i j p _)).trans (nameAs_ok ph i ps (j + 1) _)
theorem nameBs_ok (ph : List (Nat × PO)) (b : Nat) : ∀ (ps : List PV) (j : Nat) (E : ESt), SLe P (encE E) (encE (nameBs ph b j ps E))
  | [], _, _ => SLe.refl
  | p :: ps, j, E => ((nilF_ok p _ E).trans (nameB_ok ph b j p _)).trans (nameBs_ok ph b ps (j + 1) _)
theorem swapC_ok (k p : Nat) (E : ESt) : SLe P (encE E) (encE (cond (Nat.beq k p) E (swapG k p E))) := condE SLe.refl (swapE_ok _ _ E)
theorem nameC_ok (i j : Nat) (pv : PV) (E : ESt) : SLe P (encE E) (encE (nameC i j pv E)) := by
  unfold nameC
  split
  · split
    · split
      · exact swapC_ok _ _ E
      · exact SLe.refl
    · split
      · exact swapC_ok _ _ E
      · exact SLe.refl
    · split
      · exact swapC_ok _ _ E
      · exact SLe.refl
    · exact SLe.refl
  · exact SLe.refl
theorem nameCs_ok (i : Nat) : ∀ (ps : List PV) (j : Nat) (E : ESt), SLe P (encE E) (encE (nameCs i j ps E))
  | [], _, _ => SLe.refl
  | p :: ps, j, E => (nameC_ok i j p E).trans (nameCs_ok i ps (j + 1) _)
theorem nameT_ok (ph : List (Nat × PO)) : ∀ (t : List (Nat × PV)) (E : ESt), SLe P (encE E) (encE (nameT ph t E))
  | [], _ => SLe.refl
  | (i, pv) :: t, E => by
    refine SLe.trans ?_ (nameT_ok ph t _)
    split
    · exact nameAs_ok ph i _ 0 E
    · exact nameCs_ok i _ 0 E
    · exact (nilF_ok _ _ E).trans (nameS_ok ph i _ _)
theorem nameN_ok (k p : Nat) (E : ESt) : SLe P (encE E) (encE (nameN k p E)) := by
  unfold nameN
  split
  · exact condE SLe.refl (swapE_ok _ _ E)
  · exact SLe.refl
theorem nameH_ok (ph : List (Nat × PO)) : ∀ (h : List (Nat × PO)) (E : ESt), SLe P (encE E) (encE (nameH ph h E))
  | [], _ => SLe.refl
  | (k, o) :: h, E => by
    refine SLe.trans ?_ (nameH_ok ph h _)
    split
    · exact nameBs_ok ph k _ 0 E
    · exact nameN_ok k _ E
    · exact SLe.refl
end
/-! ### what is read off -/
def fillT : List (Nat × PV) → List EV → List (Nat × EV) × List EV
  | [], cs => ([], cs)
  | (i, p) :: t, cs => ((i, (fillP p cs).1) :: (fillT t (fillP p cs).2).1, (fillT t (fillP p cs).2).2)
def valT (t0 : List (Nat × EV)) : List (Nat × PV) → Option (List EV)
  | [] => some []
  | (i, p) :: t => match valV p (eget t0 i) with
    | some a => match valT t0 t with
      | some b => some (a ++ b)
      | none => none
    | none => none
def valH (h0 : EHp) : List (Nat × PO) → Option (List EV)
  | [] => some []
  | (k, p) :: h => match ehget h0 k with
    | some o => match valO p o with
      | some a => match valH h0 h with
        | some b => some (a ++ b)
        | none => none
      | none => none
    | none => none
theorem valT_ok {t0 : List (Nat × EV)} : ∀ (t : List (Nat × PV)) {hs : List EV} (rest : List EV), valT t0 t = some hs → (fillT t (hs ++ rest)).2 = rest ∧ ∀ i, Wk (enc (eget t0 i)) (enc (eget (fillT t (hs ++ rest)).1 i))
  | [], hs, rest, h => by
    simp only [valT, Option.some.injEq] at h
    subst h
    exact ⟨rfl, fun i => Wk.un⟩
  | (i, p) :: t, hs, rest, h => by
    simp only [valT] at h
    split at h
    · rename_i a ha
      split at h
      · rename_i b hb
        cases h
        have h1 := valV_ok p (b ++ rest) ha
        have h2 := valT_ok t rest hb
        simp only [fillT, List.append_assoc, h1.1]
        refine ⟨h2.1, fun j => ?_⟩
        simp only [eget]
        by_cases hj : j = i
        · subst hj; rw [Nat.beq_refl]; exact h1.2
        · rw [beq_no hj]; exact h2.2 j
      · cases h
    · cases h
theorem valH_ok {h0 : EHp} : ∀ (t : List (Nat × PO)) {hs : List EV} (rest : List EV), valH h0 t = some hs →
    ∀ k o', ehget (fillH t (hs ++ rest)) k = some o' → ∃ o, ehget h0 k = some o ∧ ∀ Rd e w, OR Rd e w k (encO o) → OR Rd e w k (encO o')
  | [], hs, rest, h, k, o', ho => by cases ho
  | (i, p) :: t, hs, rest, h, k, o', ho => by
    simp only [valH] at h
    split at h
    · rename_i o hi
      split at h
      · rename_i a ha
        split at h
        · rename_i b hb
          cases h
          obtain ⟨h1, o1, h2, h3⟩ := valO_ok p (b ++ rest) ha
          simp only [fillH, List.append_assoc, h1, h2, ehget] at ho
          by_cases hk : k = i
          · subst hk
            rw [Nat.beq_refl] at ho
            cases ho
            exact ⟨o, hi, fun Rd e w => h3 Rd e w k⟩
          · rw [beq_no hk] at ho
            exact valH_ok t rest hb k o' ho
        · cases h
      · cases h
    · cases h
/-- A FORM: slots, objects, the codes of what is left open -/
structure PS where
  t : List (Nat × PV)
  h : List (Nat × PO)
  c : List Sc
def mkPS (n : Nat) (ps : PS) (x : Tup ps.c) : ESt := ⟨n, (fillT ps.t (splitT ps.c x)).1, fillH ps.h (fillT ps.t (splitT ps.c x)).2⟩
def pruneT (t0 : List (Nat × EV)) : List (Nat × PV) → List (Nat × EV)
  | [] => []
  | (i, _) :: t => (i, eget t0 i) :: pruneT t0 t
def canon (ps : PS) (E : ESt) : Option (Tup ps.c) :=
  match valT (nameH ps.h ps.h (nameT ps.h ps.t ⟨E.n, pruneT E.t ps.t, E.h⟩)).t ps.t with
  | some a => match valH (nameH ps.h ps.h (nameT ps.h ps.t ⟨E.n, pruneT E.t ps.t, E.h⟩)).h ps.h with
    | some b => joinT ps.c (a ++ b)
    | none => none
  | none => none
theorem pruneT_get (t0 : List (Nat × EV)) : ∀ (t : List (Nat × PV)) (i : Nat), eget (pruneT t0 t) i = eget t0 i ∨ eget (pruneT t0 t) i = .un
  | [], i => .inr rfl
  | (j, p) :: t, i => by
    simp only [pruneT, eget]
    by_cases h : i = j
    · subst h; rw [Nat.beq_refl]; exact .inl rfl
    · rw [beq_no h]; exact pruneT_get t0 t i
theorem moveS_n (i k p : Nat) (E : ESt) : (moveS i k p E).n = E.n := by
  unfold moveS
  have hc : ∀ (b : Bool) (x y : ESt), x.n = E.n → y.n = E.n → (cond b x y).n = E.n := fun b x y hx hy => by cases b <;> assumption
  have hsw : ∀ a b : Nat, (swapG a b E).n = E.n := fun a b => by unfold swapG; exact hc _ _ _ rfl rfl
  split
  · exact hc _ _ _ (hsw _ _) rfl
  · exact hsw _ _
theorem moveB_n (b j k p : Nat) (bt : TypeId) (cs : List EV) (E : ESt) : (moveB b j k p bt cs E).n = E.n := by
  unfold moveB
  have hc : ∀ (b : Bool) (x y : ESt), x.n = E.n → y.n = E.n → (cond b x y).n = E.n := fun b x y hx hy => by cases b <;> assumption
  have hsw : ∀ a b : Nat, (swapG a b E).n = E.n := fun a b => by unfold swapG; exact hc _ _ _ rfl rfl
  split
  · exact hc _ _ _ (hsw _ _) rfl
  · exact hsw _ _
theorem nameS_n (ph : List (Nat × PO)) (i : Nat) (pv : PV) (E : ESt) : (nameS ph i pv E).n = E.n := by
  unfold nameS
  have hc : ∀ (b : Bool) (x y : ESt), x.n = E.n → y.n = E.n → (cond b x y).n = E.n := fun b x y hx hy => by cases b <;> assumption
  have hsw : ∀ a b : Nat, (swapG a b E).n = E.n := fun a b => by unfold swapG; exact hc _ _ _ rfl rfl
  repeat' (first | rfl | exact hsw _ _ | exact hc _ _ _ rfl rfl | exact hc _ _ _ rfl (hsw _ _) | exact hc _ _ _ rfl (moveS_n _ _ _ _) | split)
theorem nameA_n (ph : List (Nat × PO)) (i j : Nat) (pv : PV) (E : ESt) : (nameA ph i j pv E).n = E.n := by
  unfold nameA
  have hc : ∀ (b : Bool) (x y : ESt), x.n = E.n → y.n = E.n → (cond b x y).n = E.n := fun b x y hx hy => by cases b <;> assumption
  have hsw : ∀ a b : Nat, (swapG a b E).n = E.n := fun a b => by unfold swapG; exact hc _ _ _ rfl rfl
  repeat' (first | rfl | exact hsw _ _ | exact hc _ _ _ rfl rfl | exact hc _ _ _ rfl (hsw _ _) | split)
theorem nameB_n (ph : List (Nat × PO)) (i j : Nat) (pv : PV) (E : ESt) : (nameB ph i j pv E).n = E.n := by
  unfold nameB
  have hc : ∀ (b : Bool) (x y : ESt), x.n = E.n → y.n = E.n → (cond b x y).n = E.n := fun b x y hx hy => by cases b <;> assumption
  have hsw : ∀ a b : Nat, (swapG a b E).n = E.n := fun a b => by unfold swapG; exact hc _ _ _ rfl rfl
  repeat' (first | rfl | exact hsw _ _ | exact hc _ _ _ rfl rfl | exact hc _ _ _ rfl (hsw _ _) | exact hc _ _ _ rfl (moveB_n _ _ _ _ _ _ _) | split)
theorem nilF_n (pv : PV) (c : EV) (E : ESt) : (nilF pv c E).n = E.n := by
  unfold nilF
  split
  · split
    · split
      · unfold freeP
        split
        · unfold swapG; cases (Nat.blt _ 4294967296 && Nat.blt _ 4294967296) <;> rfl
        · rfl
      · rfl
    · rfl
  · rfl
theorem nameAs_n (ph : List (Nat × PO)) (i : Nat) : ∀ (ps : List PV) (j : Nat) (E : ESt), (nameAs ph i j ps E).n = E.n
  | [], _, _ => rfl
  | p :: ps, j, E => by rw [nameAs, nameAs_n ph i ps, nameA_n, nilF_n]
theorem nameBs_n (ph : List (Nat × PO)) (i : Nat) : ∀ (ps : List PV) (j : Nat) (E : ESt), (nameBs ph i j ps E).n = E.n
  | [], _, _ => rfl
  | p :: ps, j, E => by rw [nameBs, nameBs_n ph i ps, nameB_n, nilF_n]
theorem swapC_n (k p : Nat) (E : ESt) : (cond (Nat.beq k p) E (swapG k p E)).n = E.n := by
  cases Nat.beq k p with
  | true => rfl
  | false =>
    show (swapG k p E).n = E.n
    unfold swapG
    cases (Nat.blt k 4294967296 && Nat.blt p 4294967296) <;> rfl
theorem nameC_n (i j : Nat) (pv : PV) (E : ESt) : (nameC i j pv E).n = E.n := by
  unfold nameC
  split
  · split
    · split
      · exact swapC_n _ _ E
      · rfl
    · split
      · exact swapC_n _ _ E
      · rfl
    · split
      · exact swapC_n _ _ E
      · rfl
    · rfl
  · rfl
theorem nameCs_n (i : Nat) : ∀ (ps : List PV) (j : Nat) (E : ESt), (nameCs i j ps E).n = E.n
  | [], _, _ => rfl
  | p :: ps, j, E => (nameCs_n i ps (j + 1) _).trans (nameC_n i j p E)
theorem nameT_n (ph : List (Nat × PO)) : ∀ (t : List (Nat × PV)) (E : ESt), (nameT ph t E).n = E.n
  | [], _ => rfl
  | (i, pv) :: t, E => by
    refine (nameT_n ph t _).trans ?_
    cases pv with
    | ag l => exact nameAs_n ph i _ 0 E
    | cl fn fs cs => exact nameCs_n i _ 0 E
    | _ => exact (nameS_n ph i _ _).trans (nilF_n _ _ E)
theorem nameH_n (ph : List (Nat × PO)) : ∀ (t : List (Nat × PO)) (E : ESt), (nameH ph t E).n = E.n
  | [], _ => rfl
  | (i, pv) :: t, E => by
    refine (nameH_n ph t _).trans ?_
    cases pv with
    | box _ l => exact nameBs_n ph i _ 0 E
    | nr t r ho =>
      cases ho with
      | none => rfl
      | some q =>
        obtain ⟨s, p⟩ := q
        show (nameN i p E).n = E.n
        unfold nameN
        split
        · rename_i j _
          cases Nat.beq j p with
          | true => rfl
          | false =>
            show (swapG j p E).n = E.n
            unfold swapG
            cases (Nat.blt j 4294967296 && Nat.blt p 4294967296) <;> rfl
        · rfl
    | _ => rfl
theorem canon_ok {P : Program} {ps : PS} {E : ESt} {x : Tup ps.c} (h : canon ps E = some x) : SLe P (encE E) (encE (mkPS E.n ps x)) := by
  unfold canon at h
  have h1 : SLe P (encE E) (encE ⟨E.n, pruneT E.t ps.t, E.h⟩) := by
    refine SLe.wk (fun i => ?_) fun k ob' hk => ⟨ob', hk, fun _ _ _ h => h⟩
    rw [tget_enc, tget_enc]
    rcases pruneT_get E.t ps.t i with h | h
    · rw [h]; exact Wk.refl _
    · rw [h]; exact Wk.un
  have h2 := h1.trans ((nameT_ok (P := P) ps.h ps.t _).trans (nameH_ok ps.h ps.h _))
  have hn : (nameH ps.h ps.h (nameT ps.h ps.t ⟨E.n, pruneT E.t ps.t, E.h⟩)).n = E.n := by rw [nameH_n, nameT_n]
  generalize nameH ps.h ps.h (nameT ps.h ps.t ⟨E.n, pruneT E.t ps.t, E.h⟩) = E' at h h2 hn
  split at h
  · rename_i a ha
    split at h
    · rename_i b hb
      have hj := joinT_ok h
      have ht := valT_ok ps.t b ha
      have hh := valH_ok ps.h [] hb
      rw [List.append_nil] at hh
      refine h2.trans ?_
      obtain ⟨n', t', h'⟩ := E'
      simp only at hn
      subst hn
      refine SLe.wk (fun i => ?_) fun k ob' hk => ?_
      · rw [tget_enc, tget_enc]
        simp only [mkPS, ← hj]
        exact ht.2 i
      · rw [hget_enc] at hk
        obtain ⟨o', ho', rfl⟩ := Option.map_eq_some_iff.1 hk
        simp only [mkPS, ← hj, ht.1] at ho'
        obtain ⟨o, h3, h4⟩ := hh k o' ho'
        exact ⟨encO o, by rw [hget_enc, h3]; rfl, h4⟩
    · cases h
  · cases h

/-! ### rows of slices, one of which is the call's own: taken out, put back -/
def nrKey : EHp → Option Nat
  | [] => none
  | (k, o) :: h => match o with
    | some (.nr _ _ _ _) => some k
    | _ => nrKey h
def holePO : List (Nat × PO) → List (Nat × PO) → Option (Nat × TypeId)
  | _, [] => none
  | ph, (_, o) :: h => match o with
    | .nr _ _ (some (s, p)) => match pget ph p with
      | some (.arr t2 _ _) => some (s, t2)
      | _ => none
    | _ => holePO ph h
def openE (b : Nat) (t t2 : TypeId) (r : Sc) (xs : List (List r.Val)) (i : Int) (E : ESt) : ESt :=
  ⟨E.n, killT (5000000 + b) E.t, (b, some (.nr t r xs (some (i, some (5000000 + b))))) :: (5000000 + b, some (.arr t2 r [] true)) :: killH (5000000 + b) E.h⟩
def preP (ps : PS) (E : ESt) {R : Type} (k : ESt → Option R) : Option R :=
  match nrKey E.h with
  | none => k E
  | some b => match ehget E.h b with
    | some (.nr t r xs ho) => match holePO ps.h ps.h with
      | none => match ho with
        | some (i, some j) => match ehget E.h j with
          | some (.arr t2 r2 ys wr) => match castS (.sl r2) (.sl r) ys with
            | some zs => obind (nthI xs i) fun _ => cond (isNilL (show List r.Val from zs)) none (k ⟨E.n, E.t, (b, some (.nr t r (xs.set i.toNat zs) none)) :: (j, some (.arr t2 r2 ys false)) :: E.h⟩)
            | none => none
          | _ => none
        | _ => k E
      | some (s, t2) => match ho with
        | none => match eget E.t s with
          | .sc (.i _) i => cond (Nat.blt (5000000 + b) 4294967296) (obind (nthI xs i) fun x => cond (isNilL x) (k (openE b t t2 r xs i E)) none) none
          | _ => k E
        | _ => k E
    | _ => k E
theorem preP_ok {P : Program} {ps : PS} {E : ESt} {R : Type} {k : ESt → Option R} {r : R} (h : preP ps E k = some r) : ∃ E', SLe P (encE E) (encE E') ∧ E'.n = E.n ∧ k E' = some r := by
  unfold preP at h
  split at h
  · exact ⟨E, SLe.refl, rfl, h⟩
  · rename_i b _
    split at h
    · rename_i t rr xs ho hb
      have hb' := ehget_ok hb
      split at h
      · split at h
        · rename_i i j
          split at h
          · rename_i t2 r2 ys wr hj
            split at h
            · rename_i zs hz
              obtain ⟨e1, hzs⟩ := castS_ok hz
              cases e1
              have hzs : zs = ys := hzs
              subst hzs
              obtain ⟨x, hx, h⟩ := obind_some h
              obtain ⟨hi, hx⟩ := nthI_some hx
              rcases cond_some h with ⟨_, h⟩ | ⟨hn, h⟩
              · cases h
              refine ⟨_, ?_, by rfl, h⟩
              have hlt : i.toNat < xs.length := (List.getElem?_eq_some_iff.1 hx).1
              have := SLe.lendNr (P := P) (st := encE E) b i.toNat (k := j) hb' (by
                simp only [nrC, nrH]
                rw [List.getElem?_set_self (by simpa using hlt)]) (ehget_ok hj)
              refine this.trans (SLe.of_eq ?_)
              have e2 : (nrC rr xs (some (i, some j))).set i.toNat (.sl false rr.w (List.map (encC rr) zs)) = nrC rr (xs.set i.toNat zs) none := by
                simp only [nrC, List.set_set, List.map_set]
                congr 1
                cases zs with
                | nil => cases hn
                | cons y ys => rfl
              simp only [encE, encH, Option.map, encO, e2]
            · cases h
          · cases h
        · exact ⟨E, SLe.refl, rfl, h⟩
      · rename_i s t2 _
        split at h
        · split at h
          · rename_i kd i hs
            obtain ⟨hb0, h⟩ := cond_none h
            obtain ⟨x, hx, h⟩ := obind_some h
            obtain ⟨hi, hx⟩ := nthI_some hx
            obtain ⟨hc, h⟩ := cond_none h
            refine ⟨_, ?_, by rfl, h⟩
            have hx0 : x = [] := by cases x with
              | nil => rfl
              | cons y ys => cases hc
            subst hx0
            have hk0 : 5000000 + b < 4294967296 := Nat.le_of_ble_eq_true hb0
            have := SLe.ownNr (P := P) (st := encE E) b i.toNat (5000000 + b) hk0 t2 rr.w hb' (by
              simp only [nrC, List.getElem?_map, hx]; rfl) (by omega)
            refine this.trans (SLe.of_eq ?_)
            have e2 : ((nrC rr xs none).map (AV.kill (5000000 + b))).set i.toNat (.ow (5000000 + b)) = nrC rr xs (some (i, some (5000000 + b))) := by
              rw [← nrC_kill]; rfl
            simp only [openE, encE, encH, Option.map, encO, encT_kill, encH_kill, e2]
            rfl
          · exact ⟨E, SLe.refl, rfl, h⟩
        · exact ⟨E, SLe.refl, rfl, h⟩
    · exact ⟨E, SLe.refl, rfl, h⟩
/-- brought to a form -/
def canonP (ps : PS) (E : ESt) {R : Type} (k : Tup ps.c → Option R) : Option R := preP ps E fun E' => obind (canon ps E') k
theorem canonP_ok {P : Program} {ps : PS} {E : ESt} {R : Type} {k : Tup ps.c → Option R} {r : R} (h : canonP ps E k = some r) : ∃ x, SLe P (encE E) (encE (mkPS E.n ps x)) ∧ k x = some r := by
  obtain ⟨E', h1, h2, h3⟩ := preP_ok (P := P) h
  obtain ⟨x, hx, hk⟩ := obind_some h3
  have := canon_ok (P := P) hx
  rw [h2] at this
  exact ⟨x, h1.trans this, hk⟩
end
end Go.Proofs.Ytggnolfcgaglfaa
