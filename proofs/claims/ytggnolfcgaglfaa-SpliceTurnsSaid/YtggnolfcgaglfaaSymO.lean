/- REGIONS THAT DRAW THEIR ORDER: the proof. -/
import Derived.Test.YtggnolfcgaglfaaSymN
import Derived.StillTail
set_option linter.unusedVariables false
set_option linter.unusedSimpArgs false
namespace Go.Proofs.Ytggnolfcgaglfaa
open Go Go.RowKit
section
variable {P : Program} {l : List Oper} {st0 : St} {pl : List En} {S : Nat → Bool} {st : St}

theorem last_touch (hp : Plan P l st0 pl) (q : Nat → En → Prop) (h : ∃ i u, pl[i]? = some u ∧ q i u) : ∃ i u, pl[i]? = some u ∧ q i u ∧ ∀ i' u', i < i' → pl[i']? = some u' → ¬ q i' u' := by
  obtain ⟨i, u, hi, hq⟩ := h
  obtain ⟨i, h1, ⟨u, hu, hq⟩, h3⟩ := last_of (fun i => ∃ u, pl[i]? = some u ∧ q i u) pl.length ⟨i, (List.getElem?_eq_some_iff.1 hi).1, u, hi, hq⟩
  exact ⟨i, u, hu, hq, fun i' u' h4 h5 h6 => h3 i' h4 (List.getElem?_eq_some_iff.1 h5).1 ⟨u', h5, h6⟩⟩

/-- what has been done ahead of an operation that comes now, and is no matter of order -/
theorem Inv.kn (hp : Plan P l st0 pl) (hi : Inv st0 pl S st) {j : Nat} {o : Oper} {u : En} (ho : l[j]? = some o) (hu : pl[j]? = some u) (hS : Closed l S) (hj : S j = false) (hr : ∀ e ∈ o.after, Region.binds .any e = true → S e.on = true) :
    Kn l st0 (pl.take j) o u st := by
  have hjl : j < pl.length := (List.getElem?_eq_some_iff.1 hu).1
  have htl : (pl.take j).length = j := by simp; omega
  -- what must come ahead is done
  have hS2 : Closed l (fun i => S i || i == j) := fun i oi hoi hsi e he hb => by
    by_cases hij : i = j
    · subst hij
      obtain rfl := Option.some.inj (ho.symm.trans hoi)
      simp [hr e he hb]
    · have : S i = true := by simpa [hij] using hsi
      simp [hS i oi hoi this e he hb]
  have hah : ∀ i, aheadOf l j i = true → i ≠ j → S i = true := fun i hb hij => by
    have := aheadOf_closed hS2 j i hb (by simp)
    simpa [hij] using this
  -- what is done does not wait for it
  have hbe : ∀ i, S i = true → aheadOf l i j = false := fun i hsi => by
    cases h : aheadOf l i j with
    | false => rfl
    | true => rw [aheadOf_closed hS i j h hsi] at hj; cases hj
  -- a name of its own
  have hnew : ∀ (i : Nat) v, pl[i]? = some v → S i = true → v.c.nom u.fr = true ∧ hnop u.fr v.os = true := fun i v hv hsi => by
    rcases Nat.lt_trichotomy i j with h | h | h
    · exact (hp.fit i j v u h hv hu).2.1
    · subst h; rw [hj] at hsi; cases hsi
    · rcases (hp.fit j i u v h hu hv).2.2 with h1 | h1
      · exact h1
      · rw [hbe i hsi] at h1; cases h1
  have hdst : ∀ (i : Nat) v, pl[i]? = some v → ∃ oi, l[i]? = some oi ∧ oi.dst = v.d := fun i v hv => by
    have hil : i < l.length := by rw [← hp.len]; exact (List.getElem?_eq_some_iff.1 hv).1
    exact ⟨l[i], List.getElem?_eq_getElem hil, (hp.step i _ v (List.getElem?_eq_getElem hil) hv).1⟩
  have hnone : ∀ k, u.fr k = true → hget st.h k = none := fun k hk => by
    rw [hi.h0 k fun i v hv hsi => hnop_names (hnew i v hv hsi).2 hk]
    exact hget_hin_none (hnop_names (hp.new0 j u hu).2 hk)
  refine ⟨hi.n, fun x hx => ?_, fun x hx => ?_, fun e he hb v d hv hd => ?_, fun k hk => ?_, fun x => ?_, fun k ob hk => ?_, hnone⟩
  · refine hi.t0 x fun i v hv _ hd => ?_
    obtain ⟨oi, hoi, hod⟩ := hdst i v hv
    have := List.all_eq_true.1 hx oi (List.mem_of_getElem? hoi)
    rw [hod, hd] at this
    simp at this
  · rw [htl] at hx
    refine hi.t0 x fun i v hv hsi hd => ?_
    obtain ⟨oi, hoi, hod⟩ := hdst i v hv
    have hil : i < l.length := (List.getElem?_eq_some_iff.1 hoi).1
    have := List.all_eq_true.1 hx i (by simpa using hil)
    simp only [hoi, hod, hd, hbe i hsi, Bool.or_false, Bool.or_eq_true] at this
    rcases this with h | h
    · simp at h
    · have : i = j := by simpa using h
      subst this
      rw [hj] at hsi; cases hsi
  · have hlt := hp.back j o ho e he hb
    rw [List.getElem?_take, if_pos hlt] at hv
    exact hi.ts e.on v d hv (hr e he hb) hd
  · -- the objects that it looks at
    have hst : ∀ (i : Nat) v, pl[i]? = some v → hin k v.os = true → (i < j → S i = true) ∧ (S i = true → i < j) := fun i v hv hkv => by
      obtain ⟨p, hpm, hpk⟩ := List.any_eq_true.1 hkv
      have hpk : p.1 = k := by simpa using hpk
      refine ⟨fun hlt => ?_, fun hsi => ?_⟩
      · rcases (hp.fit i j v u hlt hv hu).1 with h1 | h1
        · simp only [apartB, Bool.and_eq_true] at h1
          have := List.all_eq_true.1 h1.1 p hpm
          simp only [Bool.and_eq_true, hpk, hk] at this
          simp at this
        · exact hah i h1 (by omega)
      · rcases Nat.lt_trichotomy i j with h | h | h
        · exact h
        · subst h; rw [hj] at hsi; cases hsi
        · rcases (hp.fit j i u v h hu hv).1 with h1 | h1
          · simp only [apartB, Bool.and_eq_true] at h1
            have := List.all_eq_true.1 h1.2 p hpm
            simp only [hpk, hk] at this
            simp at this
          · rw [hbe i hsi] at h1; cases h1
    by_cases hex : ∃ i v, pl[i]? = some v ∧ (i < j ∧ hin k v.os = true)
    · obtain ⟨i, v, hv, ⟨hij, hkv⟩, hlast⟩ := last_touch hp (fun i v => i < j ∧ hin k v.os = true) hex
      rw [hi.hs k i v hv ((hst i v hv hkv).1 hij) hkv fun i' u' h1 h2 h3 => ?_]
      · refine (finH_last _ _ k i v (by rw [List.getElem?_take, if_pos hij]; exact hv) hkv fun i' u' h1 h2 => ?_).symm
        rw [List.getElem?_take] at h2
        split at h2
        · rename_i hlt
          cases hh : hin k u'.os with
          | false => rfl
          | true => exact absurd ⟨hlt, hh⟩ (hlast i' u' h1 h2)
        · cases h2
      · cases hh : hin k u'.os with
        | false => rfl
        | true => exact absurd ⟨(hst i' u' h2 hh).2 h3, hh⟩ (hlast i' u' h1 h2)
    · rw [hi.h0 k fun i v hv hsi => ?_, finH_none _ _ k fun v hv => ?_]
      · obtain ⟨i, hi', rfl⟩ := List.getElem_of_mem hv
        have hij : i < j := by rw [htl] at hi'; exact hi'
        have hvv : pl[i]? = some ((pl.take j)[i]) := by
          rw [List.getElem_take]
          exact List.getElem?_eq_getElem (by omega)
        cases hh : hin k ((pl.take j)[i]).os with
        | false => rfl
        | true => exact absurd ⟨i, _, hvv, hij, hh⟩ hex
      · cases hh : hin k v.os with
        | false => rfl
        | true => exact absurd ⟨i, v, hv, (hst i v hv hh).2 hsi, hh⟩ hex
  · by_cases hex : ∃ (i : Nat) (v : En), pl[i]? = some v ∧ S i = true ∧ v.d = some x
    · obtain ⟨i, v, hv, hsi, hd⟩ := hex
      rw [hi.ts i v x hv hsi hd]
      exact (hnew i v hv hsi).1
    · rw [hi.t0 x fun i v hv hsi hd => hex ⟨i, v, hv, hsi, hd⟩]
      exact tnop_get (hp.new0 j u hu).1 x
  · by_cases hex : ∃ i v, pl[i]? = some v ∧ (S i = true ∧ hin k v.os = true)
    · obtain ⟨i, v, hv, ⟨hsi, hkv⟩, hlast⟩ := last_touch hp (fun i v => S i = true ∧ hin k v.os = true) hex
      rw [hi.hs k i v hv hsi hkv fun i' u' h1 h2 h3 => by
        cases hh : hin k u'.os with
        | false => rfl
        | true => exact absurd ⟨h3, hh⟩ (hlast i' u' h1 h2)] at hk
      exact hnop_obs (hnew i v hv hsi).2 hk
    · rw [hi.h0 k fun i v hv hsi => by
        cases hh : hin k v.os with
        | false => rfl
        | true => exact absurd ⟨i, v, hv, hsi, hh⟩ hex] at hk
      exact hnop_obs (hp.new0 j u hu).2 hk

theorem Inv.step (hp : Plan P l st0 pl) (hi : Inv st0 pl S st) {j : Nat} {o : Oper} {u : En} (ho : l[j]? = some o) (hu : pl[j]? = some u) (hS : Closed l S) (hj : S j = false) :
    Inv st0 pl (fun i => S i || i == j) ⟨st.n, tput u.d u.c st.t, u.os ++ st.h⟩ := by
  have hbe : ∀ i, S i = true → aheadOf l i j = false := fun i hsi => by
    cases h : aheadOf l i j with
    | false => rfl
    | true => rw [aheadOf_closed hS i j h hsi] at hj; cases hj
  have hor : ∀ i, S i = true → (S i || i == j) = true := fun i h => by simp [h]
  have hdst : ∀ (i : Nat) v, pl[i]? = some v → ∃ oi, l[i]? = some oi ∧ oi.dst = v.d := fun i v hv => by
    have hil : i < l.length := by rw [← hp.len]; exact (List.getElem?_eq_some_iff.1 hv).1
    exact ⟨l[i], List.getElem?_eq_getElem hil, (hp.step i _ v (List.getElem?_eq_getElem hil) hv).1⟩
  refine ⟨hi.n, fun x hx => ?_, fun i v d hv hsi hd => ?_, fun k hk => ?_, fun k i v hv hsi hkv hlast => ?_⟩
  · simp only [tget_tput]
    rw [if_neg (hx j u hu (by simp))]
    exact hi.t0 x fun i v hv hsi => hx i v hv (hor i hsi)
  · simp only [tget_tput]
    by_cases hij : i = j
    · subst hij
      obtain rfl := Option.some.inj (hu.symm.trans hv)
      rw [if_pos hd]
    · have hne : u.d ≠ some d := fun hud => by
        obtain ⟨oi, h1, h2⟩ := hdst i v hv
        obtain ⟨oj, h3, h4⟩ := hdst j u hu
        exact hij (dstsB_get hp.inj i j oi oj d h1 h3 (h2.trans hd) (h4.trans hud))
      rw [if_neg hne]
      exact hi.ts i v d hv (by simpa [hij] using hsi) hd
  · show hget (u.os ++ st.h) k = _
    rw [hget_hin (hk j u hu (by simp))]
    exact hi.h0 k fun i v hv hsi => hk i v hv (hor i hsi)
  · show hget (u.os ++ st.h) k = _
    by_cases hij : i = j
    · subst hij
      obtain rfl := Option.some.inj (hu.symm.trans hv)
      exact hget_hin' hkv _
    · have hsi' : S i = true := by simpa [hij] using hsi
      have hku : hin k u.os = false := by
        cases hh : hin k u.os with
        | false => rfl
        | true =>
          obtain ⟨p, hpm, hpk⟩ := List.any_eq_true.1 hkv
          have hpk : p.1 = k := by simpa using hpk
          obtain ⟨q, hqm, hqk⟩ := List.any_eq_true.1 hh
          have hqk : q.1 = k := by simpa using hqk
          rcases Nat.lt_trichotomy i j with h | h | h
          · have := hlast j u h hu (by simp)
            rw [hh] at this; cases this
          · exact absurd h hij
          · rcases (hp.fit j i u v h hu hv).1 with h1 | h1
            · simp only [apartB, Bool.and_eq_true] at h1
              have := List.all_eq_true.1 h1.1 q hqm
              simp only [Bool.and_eq_true, hqk, hkv] at this
              simp at this
            · rw [hbe i hsi'] at h1; cases h1
      rw [hget_hin hku]
      exact hi.hs k i v hv hsi' hkv fun i' u' h1 h2 h3 => hlast i' u' h1 h2 (hor i' h3)

theorem Inv.fin (hp : Plan P l st0 pl) (hi : Inv st0 pl S st) (hall : ∀ j, j < l.length → S j = true) : (∀ x, tget (finT st0.t pl) x = tget st.t x) ∧ ∀ k, hget (finH st0.h pl) k = hget st.h k := by
  have hlt : ∀ (i : Nat) v, pl[i]? = some v → S i = true := fun i v hv => hall i (by rw [← hp.len]; exact (List.getElem?_eq_some_iff.1 hv).1)
  refine ⟨fun x => ?_, fun k => ?_⟩
  · by_cases hex : ∃ (i : Nat) (v : En), pl[i]? = some v ∧ v.d = some x
    · obtain ⟨i, v, hv, hd, hlast⟩ := last_touch hp (fun i v => v.d = some x) hex
      rw [finT_last pl _ x i v hv hd hlast, hi.ts i v x hv (hlt i v hv) hd]
    · rw [finT_none pl _ x fun v hv hd => by
        obtain ⟨i, hi', rfl⟩ := List.getElem_of_mem hv
        exact hex ⟨i, _, List.getElem?_eq_getElem hi', hd⟩, hi.t0 x fun i v hv _ hd => hex ⟨i, v, hv, hd⟩]
  · by_cases hex : ∃ (i : Nat) (v : En), pl[i]? = some v ∧ hin k v.os = true
    · obtain ⟨i, v, hv, hd, hlast⟩ := last_touch hp (fun i v => hin k v.os = true) hex
      have hl' : ∀ (i' : Nat) u', i < i' → pl[i']? = some u' → hin k u'.os = false := fun i' u' h1 h2 => by
        cases hh : hin k u'.os with
        | false => rfl
        | true => exact absurd hh (hlast i' u' h1 h2)
      rw [finH_last pl _ k i v hv hd hl', hi.hs k i v hv (hlt i v hv) hd fun i' u' h1 h2 _ => hl' i' u' h1 h2]
    · have hno : ∀ (i : Nat) v, pl[i]? = some v → hin k v.os = false := fun i v hv => by
        cases hh : hin k v.os with
        | false => rfl
        | true => exact absurd ⟨i, v, hv, hh⟩ hex
      rw [finH_none pl _ k fun v hv => by
        obtain ⟨i, hi', rfl⟩ := List.getElem_of_mem hv
        exact hno i _ (List.getElem?_eq_getElem hi'), hi.h0 k fun i v hv _ => hno i v hv]

theorem wpOp_of_GS {o : Oper} {j : Nat} {K : St → Prop} (ho : l[j]? = some o) (h : GS P l.toArray o st K) {w0 : Bs} {Rd0 : Nat → Nat → Value → Prop} {e : Env} {a : Act} {w : World} {next : Act → World → Prop} {Q : Exit → Act → World → Prop}
    (hga : Ga w0 Rd0 e st a w) (hn : ∀ st', K st' → ∀ e' a' w', Ga w0 Rd0 e' st' a' w' → next a' w') : wpOp P l.toArray Q j next a w := by
  have := h w0 Rd0 e a w next Q hga hn
  unfold wpOp
  have e1 : l.toArray[j]? = some o := by simpa using ho
  rw [e1]
  simp only
  split
  · rename_i hw; rw [if_pos hw] at this; exact .inl this
  · rename_i hw; rw [if_neg hw] at this; exact this

/-- ONE WALK SERVES EVERY ORDER -/
theorem Plan.any (hp : Plan P l st0 pl) {w0 : Bs} {Rd0 : Nat → Nat → Value → Prop} {Q : Exit → Act → World → Prop} (hQ : ∀ e a w, Ga w0 Rd0 e ⟨st0.n, finT st0.t pl, finH st0.h pl⟩ a w → Q .normal a w) :
    ∀ (fuel : Nat) (listed : Array Bool) (st : St) (e : Env) (a : Act) (w : World), listed.size = l.length → Closed l (fun i => listed.getD i false) → (∀ m, m = (listed.toList.filter (· == false)).length → m = fuel) → Inv st0 pl (fun i => listed.getD i false) st → Ga w0 Rd0 e st a w →
    wpAny P .any l.toArray Q fuel listed a w := by
  intro fuel
  induction fuel with
  | zero =>
    intro listed st e a w hsz hcl hm hinv hga
    have hfull : ∀ j, j < l.length → listed.getD j false = true := fun j hj => by
      have h0 : (listed.toList.filter (· == false)).length = 0 := hm _ rfl
      have h1 : listed.toList.filter (· == false) = [] := List.eq_nil_of_length_eq_zero h0
      have hj' : j < listed.size := by omega
      have : listed[j] ∈ listed.toList := by simp
      have h2 := List.filter_eq_nil_iff.1 h1 _ this
      have : listed[j] = true := by simpa using h2
      simp [hj', this]
    have hf := hinv.fin hp hfull
    refine ⟨?_, ?_⟩
    · rw [List.eq_nil_iff_forall_not_mem]
      intro j hj
      obtain ⟨h1, o, ho, _⟩ := mem_ready.1 hj
      have hjl : j < l.length := by
        have := (Array.getElem?_eq_some_iff.1 ho).1
        simp at this; exact this
      have h2 := hfull j hjl
      rw [getD_both h1] at h2; cases h2
    · obtain ⟨e', hg⟩ := (SLe.same (P := P) (n := st0.n) hf.1 hf.2) w0 Rd0 e a w (by have := hga; rw [← hinv.n]; exact this)
      exact hQ e' a w hg
  | succ fuel ih =>
    intro listed st e a w hsz hcl hm hinv hga
    have hnotall : ∃ j, j < l.length ∧ listed.getD j false = false := by
      have h1 : (listed.toList.filter (· == false)).length = fuel + 1 := hm _ rfl
      have h2 : listed.toList.filter (· == false) ≠ [] := fun h => by rw [h] at h1; simp at h1
      obtain ⟨b, hb⟩ := List.exists_mem_of_ne_nil _ h2
      obtain ⟨hb1, hb2⟩ := List.mem_filter.1 hb
      obtain ⟨j, hj, hjb⟩ := List.getElem_of_mem hb1
      refine ⟨j, by rw [← hsz]; simp at hj; exact hj, ?_⟩
      have hj' : j < listed.size := by simp at hj; exact hj
      have : listed[j] = b := by simpa using hjb
      have hbf : b = false := by simpa using hb2
      simp [hj', this, hbf]
    refine ⟨fun hnil => ?_, fun j hj => ?_⟩
    · -- something is ready: the first that is not done
      exfalso
      obtain ⟨j, hj1, hj2⟩ := hnotall
      have : ∀ j, j < l.length → listed.getD j false = false → False := by
        intro j
        induction j using Nat.strongRecOn with
        | _ j ihj =>
          intro h1 h2
          have ho : l[j]? = some l[j] := List.getElem?_eq_getElem h1
          by_cases hr : ∀ e ∈ (l[j]).after, Region.binds .any e = true → listed.getD e.on false = true
          · have : j ∈ Region.ready .any l.toArray listed := mem_ready.2 ⟨getD_in (by omega) h2, l[j], by simp, hr⟩
            rw [hnil] at this; cases this
          · simp only [Classical.not_forall] at hr
            obtain ⟨e, he, hb, hne⟩ := hr
            have hlt := hp.back j _ ho e he hb
            exact ihj e.on hlt (by omega) (by simpa using hne)
      exact this j hj1 hj2
    · obtain ⟨h1, o, ho, hr⟩ := mem_ready.1 hj
      have ho' : l[j]? = some o := by simpa using ho
      have hjl : j < l.length := (List.getElem?_eq_some_iff.1 ho').1
      have hjp : j < pl.length := by rw [hp.len]; exact hjl
      have hu : pl[j]? = some pl[j] := List.getElem?_eq_getElem hjp
      have hjf : listed.getD j false = false := getD_both h1
      have hkn := hinv.kn hp ho' hu hcl hjf hr
      refine wpOp_of_GS ho' ((hp.step j o _ ho' hu).2 st hkn) hga fun st' hst' e' a' w' hg' => ?_
      subst hst'
      have hS : (fun i => (listed.setIfInBounds j true).getD i false) = fun i => listed.getD i false || i == j := by
        funext i
        by_cases hij : i = j
        · subst hij
          simp [Array.getD_eq_getD_getElem?, show i < listed.size by omega]
        · have h2 : ¬ j = i := fun h => hij h.symm
          simp [Array.getD_eq_getD_getElem?, Array.getElem?_setIfInBounds, h2, hij]
      refine ih _ _ e' a' w' (by simpa using hsz) ?_ ?_ ?_ hg'
      · rw [hS]
        intro i oi hoi hsi ed hed hb
        by_cases hij : i = j
        · subst hij
          obtain rfl := Option.some.inj (ho'.symm.trans hoi)
          simp [hr ed hed hb]
        · have hsi' : listed.getD i false = true := by simpa [hij] using hsi
          have := hcl i oi hoi hsi' ed hed hb
          simp [this]
      · intro m hmm
        have h2 : (listed.toList.filter (· == false)).length = fuel + 1 := hm _ rfl
        have h3 : ∀ (L : List Bool) (j : Nat), L[j]? = some false → ((L.set j true).filter (· == false)).length + 1 = (L.filter (· == false)).length := by
          intro L
          induction L with
          | nil => intro j h; simp at h
          | cons b L ihL =>
            intro j h
            cases j with
            | zero => simp at h; subst h; simp
            | succ j =>
              have := ihL j (by simpa using h)
              cases b <;> simp_all <;> omega
        have h4 := h3 listed.toList j (by
          have hlt : j < listed.size := by omega
          have : listed[j] = false := by simpa [hlt] using hjf
          simp [hlt, this])
        rw [Array.toList_setIfInBounds] at hmm
        omega
      · rw [hS]
        exact hinv.step hp ho' hu hcl hjf

/-- THE REGION -/
theorem AC.plan {id : Nat} {Post : Exit → St → Prop} (hm : P.follows .mixedOrders = true) (hp : Plan P l st0 pl) (h : Post .normal ⟨st0.n, finT st0.t pl, finH st0.h pl⟩) : AC P (.region id l.toArray true) st0 Post := by
  intro w0 Rd0 e a w Q hga hn
  refine wp_region_any hm (hp.any (w0 := w0) (Rd0 := Rd0) (fun e' a' w' hg => hn .normal _ h e' a' w' hg) _ _ st0 e a _ (by simp) ?_ ?_ ?_ (hga.later ((Ext.refl w).drewN 1)))
  · intro j o ho hs
    have hs : (Array.replicate l.toArray.size false).getD j false = true := hs
    rw [getD_replicate_false] at hs; cases hs
  · intro m hm'
    rw [hm']
    simp
  · exact ⟨rfl, fun x _ => rfl, fun i u d _ hs => (by
      have hs : (Array.replicate l.toArray.size false).getD i false = true := hs
      rw [getD_replicate_false] at hs; cases hs), fun k _ => rfl, fun k i u _ hs => (by
      have hs : (Array.replicate l.toArray.size false).getD i false = true := hs
      rw [getD_replicate_false] at hs; cases hs)⟩
end
end Go.Proofs.Ytggnolfcgaglfaa
