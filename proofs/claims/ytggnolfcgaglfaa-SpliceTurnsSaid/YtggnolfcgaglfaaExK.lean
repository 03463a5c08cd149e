/- Functions, reckoned: a contract of each. -/
import Derived.Test.YtggnolfcgaglfaaExJ
set_option linter.unusedVariables false
set_option linter.unusedSimpArgs false
namespace Go.Proofs.Ytggnolfcgaglfaa
open Go Go.RowKit
noncomputable section

def entE : Nat → List EV → List (Nat × EV)
  | _, [] => []
  | i, c :: cs => (i, c) :: entE (i + 1) cs
theorem encT_ent : ∀ (cs : List EV) (i : Nat), encT (entE i cs) = entT i (encL cs)
  | [], _ => rfl
  | c :: cs, i => by simp only [entE, encT, encL, entT, encT_ent cs (i + 1)]
def finF (ps : PS) (x : Exit) (E : ESt) : Option (Tup ps.c) := match x with
  | .normal => canonP ps E some
  | .ret => canonP ps E some
  | _ => none
noncomputable def exF (T : TypeId → TInfo) (CT : Nat → List Ctr) (N : Nat) (c : Code) (n : Nat) (pl : Pl) (ps : List PV) (hs : List (Nat × PO)) (cs : List Sc) (rs : PS) (x : Tup cs) : Option (Tup rs.c) :=
  Nat.rec (motive := fun _ => Option (Tup rs.c)) none (fun M _ => exC T (CT M) M c pl ⟨n, entE 0 (fillPs ps (splitT cs x)).1, fillH hs (fillPs ps (splitT cs x)).2⟩ _ (finF rs)) N
/-- a load from a block -/
def loadE (T : TypeId → TInfo) (h : EHp) (t : TypeId) : EV → Option EV
  | .pt j o => match (T t).ty with
    | some (ag, m) => match ehget h j with
      | some (.box bt cs) => cond (!(Nat.beq bt itT) && Nat.ble (o + m) cs.length) (wrapE ag ((cs.drop o).take m)) none
      | _ => none
    | none => none
  | _ => none
def resE (T : TypeId → TInfo) (E : ESt) : List ResultVar → Option (List EV)
  | [] => some []
  | r :: rs => match r with
    | .tmp i => match resE T E rs with
      | some cs => some (eget E.t i :: cs)
      | none => none
    | .cell a t => match loadE T E.h t (eget E.t a) with
      | some c => match resE T E rs with
        | some cs => some (c :: cs)
        | none => none
      | none => none
def oneE : List EV → EV
  | [c] => c
  | cs => .tu cs
def resG (T : TypeId → TInfo) (E : ESt) (rs : List ResultVar) : EV := match resE T E rs with
  | some cs => oneE cs
  | none => .un
/-- just these objects -/
def keepH' (names : List Nat) : EHp → EHp
  | [] => []
  | (k, o) :: h => cond (names.contains k) ((k, o) :: keepH' names h) (keepH' names h)
/-- a piece of code within another one -/
def codeAt : List Nat → Code → Code
  | [], c => c
  | 0 :: p, .seq a _ => codeAt p a
  | _ :: p, .seq _ b => codeAt p b
  | 0 :: p, .cond _ a _ => codeAt p a
  | _ :: p, .cond _ _ b => codeAt p b
  | _ :: p, .block _ a => codeAt p a
  | _ :: p, .loop a => codeAt p a
  | _ :: p, .scope a => codeAt p a
  | _ :: _, c => c
def bodyOf (fn : Func) : Code := match fn.body with
  | some c => c
  | none => .skip
theorem loadE_ok {P : Program} {T : TypeId → TInfo} (hT : TOk P T) {E : ESt} {t : TypeId} {p c : EV} (h : loadE T E.h t p = some c) : loadF P (encE E) (enc p) t = some (enc c) := by
  unfold loadE at h
  split at h
  · rename_i j o
    split at h
    · rename_i ag m ht
      split at h
      · rename_i bt cs hj
        obtain ⟨h1, h2⟩ := cond_none h
        simp only [loadF, hT.ty _ _ ht, enc, cellsF, ehget_ok hj, encO, encL_length]
        simp only [Bool.and_eq_true] at h1
        rw [if_pos ⟨ne_itT h1.1, Nat.le_of_ble_eq_true h1.2⟩, ← encL_drop, ← encL_take]
        exact wrapE_ok h2
      · cases h
    · cases h
  · cases h
theorem resE_ok {P : Program} {T : TypeId → TInfo} (hT : TOk P T) {E : ESt} : ∀ {rs : List ResultVar} {cs : List EV}, resE T E rs = some cs → resF P (encE E) rs = some (encL cs)
  | [], cs, h => by simp only [resE, Option.some.injEq] at h; subst h; rfl
  | r :: rs, cs, h => by
    simp only [resE] at h
    split at h
    · rename_i i
      split at h
      · rename_i cs' hr
        cases h
        simp only [resF, resE_ok hT hr]
        rw [show tget (encE E).t i = enc (eget E.t i) from tget_enc E.t i]; rfl
      · cases h
    · rename_i a t
      split at h
      · rename_i c hc
        split at h
        · rename_i cs' hr
          cases h
          have h1 := loadE_ok hT hc
          rw [← show tget (encE E).t a = enc (eget E.t a) from tget_enc E.t a] at h1
          simp only [resF, resE_ok hT hr, h1]; rfl
        · cases h
      · cases h
theorem oneE_ok (cs : List EV) : oneF (encL cs) = enc (oneE cs) := by
  match cs with
  | [] => rfl
  | [c] => rfl
  | c :: d :: cs => rfl
theorem RCX.drop {P : Program} {f : FuncId} {H0 : Hp} {as : List AV} {H H2 : Hp} {r : AV} (h : RCX P f H0 as H r) (hh : ∀ k ob, hget H2 k = some ob → hget H k = some ob) : RCX P f H0 as H2 r := by
  refine ⟨h.1, fun B Rd e w vs hs hv => (h.2 B Rd e w vs hs hv).mono fun x w' hx => ?_⟩
  obtain ⟨v, e', rfl, hs, hv⟩ := hx
  have hR : ∀ b o u, RDx B Rd e' H w' b o u → RDx B Rd e' H2 w' b o u := fun b o u ⟨h1, h2, h3⟩ => ⟨h1, h2, fun k ob hk hb => h3 k ob (hh k ob hk) hb⟩
  exact ⟨v, e', rfl, ⟨hs.ext, hs.good, fun j ob hj => (hs.ob j ob (hh j ob hj)).mono hR, fun j ob b hj hb => hs.base j ob b (hh j ob hj) hb, fun j j' ob ob' b h1 h2 b1 b2 => hs.inj j j' ob ob' b (hh j ob h1) (hh j' ob' h2) b1 b2, hs.pin⟩, hv.mono hR⟩
theorem keepH'_get (names : List Nat) : ∀ (h : EHp) (k : Nat) (o : EOb), ehget (keepH' names h) k = some o → ehget h k = some o
  | [], k, o, h => by cases h
  | (j, o1) :: h, k, o, hk => by
    simp only [keepH'] at hk
    simp only [ehget]
    cases hc : names.contains j with
    | true =>
      rw [hc] at hk
      simp only [cond_true, ehget] at hk
      by_cases hkj : k = j
      · subst hkj; rw [Nat.beq_refl] at hk ⊢; exact hk
      · rw [beq_no hkj] at hk ⊢; exact keepH'_get names h k o hk
    | false =>
      rw [hc] at hk
      simp only [cond_false] at hk
      have := keepH'_get names h k o hk
      by_cases hkj : k = j
      · subst hkj
        have hno : ∀ (h : EHp), ehget (keepH' names h) k = none := by
          intro h
          induction h with
          | nil => rfl
          | cons p h ih =>
            obtain ⟨a, b⟩ := p
            simp only [keepH']
            cases hca : names.contains a with
            | false => exact ih
            | true =>
              have hak : k ≠ a := fun e => by rw [← e, hc] at hca; cases hca
              simp only [cond_true, ehget, beq_no hak, cond_false]
              exact ih
        rw [hno] at hk; cases hk
      · rw [beq_no hkj]; exact this
theorem keepH'_nil : ∀ h : EHp, keepH' [] h = []
  | [] => rfl
  | (k, o) :: h => by simp only [keepH', List.contains_nil, cond_false, keepH'_nil h]
theorem fillPs_len : ∀ (ps : List PV) (cs : List EV), (fillPs ps cs).1.length = ps.length
  | [], _ => rfl
  | p :: ps, cs => by simp only [fillPs, List.length_cons, fillPs_len ps]
/-- a body, walked to a form -/
theorem exF_core {P : Program} {T : TypeId → TInfo} {CT : List Ctr} {N : Nat} (hp : Place P T CT) {f : FuncId} {fn : Func} {c : Code} (hf : P.funcs[f]? = some fn) (hnm : (fn.name == "runtime.NumGoroutine") = false) (hc : fn.body = some c) (pl : Pl)
    (as : List EV) (H0 : EHp) (hlen : as.length ≤ fn.ntmps) (hbig : fn.ntmps ≤ 1000000) {α : Type} (fin : Exit → ESt → Option α) (y : α) (rs : PS) (a : Tup rs.c) (names : List Nat)
    (hfin : ∀ q E', fin q E' = some y → (q = .normal ∨ q = .ret) ∧ SLe P (encE E') (encE (mkPS E'.n rs a))) (hres : (resE T (mkPS fn.ntmps rs a) fn.results.toList).isSome = true)
    (hxy : exC T CT N c pl ⟨fn.ntmps, entE 0 as, H0⟩ α fin = some y) : RCX P f (encH H0) (encL as) (encH (keepH' names (mkPS fn.ntmps rs a).h)) (enc (resG T (mkPS fn.ntmps rs a) fn.results.toList)) := by
  refine RCX.drop (H := encH (mkPS fn.ntmps rs a).h) ?_ (fun k ob hk => ?_)
  · refine RCX.intro hf hnm hc (by rw [encL_length]; exact hlen) hbig ?_
    have := exC_ok (N := N) hp c pl ⟨fn.ntmps, entE 0 as, H0⟩ _ _ _ hxy
    simp only [encE, encT_ent] at this
    refine this.mono fun q s => ?_
    rintro ⟨E', rfl, hn, hk⟩
    obtain ⟨hq, hle⟩ := hfin q E' hk
    refine ⟨hq, ?_⟩
    rw [hn] at hle
    obtain ⟨cs, hcs⟩ := Option.isSome_iff_exists.1 hres
    have h1 := resE_ok hp.t hcs
    refine ⟨encT (mkPS fn.ntmps rs a).t, encL cs, hle, h1, ?_⟩
    rw [oneE_ok]
    simp only [resG, hcs]
  · rw [hget_enc] at hk ⊢
    obtain ⟨o, ho, rfl⟩ := Option.map_eq_some_iff.1 hk
    rw [keepH'_get _ _ _ _ ho]; rfl
/-- A FUNCTION's CONTRACT -/
theorem exF_ok {P : Program} {T : TypeId → TInfo} {CT : Nat → List Ctr} {N : Nat} (hp : ∀ M, Place P T (CT M)) {f : FuncId} {fn : Func} (hf : P.funcs[f]? = some fn) (hnm : (fn.name == "runtime.NumGoroutine") = false) (hb : fn.body.isSome = true) (pl : Pl)
    (ps : List PV) (hs : List (Nat × PO)) (cs : List Sc) (rs : PS) (own pu : Bool) (names : List Nat) (hlen : (Nat.ble ps.length fn.ntmps && Nat.ble fn.ntmps 1000000) = true) (hres : ∀ y, (resE T (mkPS fn.ntmps rs y) fn.results.toList).isSome = true) (hown : own = false → hs = [] ∧ names = [])
    (hpu : ∀ y, (!pu || ((resG T (mkPS fn.ntmps rs y) fn.results.toList).pu && puH (keepH' names (mkPS fn.ntmps rs y).h))) = true)
    (M : Tup cs → Option (Tup rs.c)) (hM : ∀ x, M x = exF T CT N (bodyOf fn) fn.ntmps pl ps hs cs rs x) :
    (Ctr.mk f ps hs cs (Tup rs.c) M (fun y _ k => k (resG T (mkPS fn.ntmps rs y) fn.results.toList) (keepH' names (mkPS fn.ntmps rs y).h)) own pu).ok P := by
  refine ⟨fun ho => (hown ho).1, fun x y hxy => ⟨_, _, fun _ _ => rfl, fun ho => ?_, fun hq => ?_, ?_⟩⟩
  · rw [(hown ho).2]
    exact keepH'_nil _
  · have := hpu y
    simp only at hq
    rw [hq] at this
    simpa using this
  obtain ⟨c, hc⟩ := Option.isSome_iff_exists.1 hb
  have hbody : bodyOf fn = c := by simp only [bodyOf, hc]
  simp only at hxy ⊢
  rw [hM, hbody] at hxy
  simp only [Bool.and_eq_true] at hlen
  cases N with
  | zero => cases hxy
  | succ M =>
  change exC T (CT M) M c pl ⟨fn.ntmps, entE 0 (fillPs ps (splitT cs x)).1, fillH hs (fillPs ps (splitT cs x)).2⟩ _ (finF rs) = some y at hxy
  refine exF_core (hp M) hf hnm hc pl (fillPs ps (splitT cs x)).1 _ (by rw [fillPs_len]; exact Nat.le_of_ble_eq_true hlen.1) (Nat.le_of_ble_eq_true hlen.2) (finF rs) y rs y names (fun q E' hk => ?_) (hres y) hxy
  have hq : (q = .normal ∨ q = .ret) ∧ canonP rs E' some = some y := by
    unfold finF at hk
    split at hk
    · exact ⟨.inl rfl, hk⟩
    · exact ⟨.inr rfl, hk⟩
    · cases hk
  obtain ⟨hq, hk⟩ := hq
  obtain ⟨y', hle, hy'⟩ := canonP_ok (P := P) hk
  cases hy'
  exact ⟨hq, hle⟩
/-! ### results of two forms -/
def fin2 (r1 r2 : PS) (E : ESt) : Option (Sum (Tup r1.c) (Tup r2.c)) := preP r1 E fun E' => match canon r1 E' with
  | some a => some (.inl a)
  | none => match canon r2 E' with
    | some b => some (.inr b)
    | none => none
def finF2 (r1 r2 : PS) (x : Exit) (E : ESt) : Option (Sum (Tup r1.c) (Tup r2.c)) := match x with
  | .normal => fin2 r1 r2 E
  | .ret => fin2 r1 r2 E
  | _ => none
noncomputable def exF2 (T : TypeId → TInfo) (CT : Nat → List Ctr) (N : Nat) (c : Code) (n : Nat) (pl : Pl) (ps : List PV) (hs : List (Nat × PO)) (cs : List Sc) (r1 r2 : PS) (x : Tup cs) : Option (Sum (Tup r1.c) (Tup r2.c)) :=
  Nat.rec (motive := fun _ => Option (Sum (Tup r1.c) (Tup r2.c))) none (fun M _ => exC T (CT M) M c pl ⟨n, entE 0 (fillPs ps (splitT cs x)).1, fillH hs (fillPs ps (splitT cs x)).2⟩ _ (finF2 r1 r2)) N
theorem fin2_ok {P : Program} {r1 r2 : PS} {E : ESt} {y : Sum (Tup r1.c) (Tup r2.c)} (h : fin2 r1 r2 E = some y) : (∀ a, y = .inl a → SLe P (encE E) (encE (mkPS E.n r1 a))) ∧ ∀ b, y = .inr b → SLe P (encE E) (encE (mkPS E.n r2 b)) := by
  obtain ⟨E', h1, hn, h2⟩ := preP_ok (P := P) h
  rw [← hn]
  split at h2
  · rename_i a ha
    cases h2
    exact ⟨fun _ e => (by cases e; exact h1.trans (canon_ok ha)), fun _ e => (by cases e)⟩
  · split at h2
    · rename_i b hb
      cases h2
      exact ⟨fun _ e => (by cases e), fun _ e => (by cases e; exact h1.trans (canon_ok hb))⟩
    · cases h2
def el2 {A B : Type} (f : A → EV × EHp) (g : B → EV × EHp) (s : Sum A B) (R : Type) (k : EV → EHp → Option R) : Option R := match s with
  | .inl a => k (f a).1 (f a).2
  | .inr b => k (g b).1 (g b).2
/-- A FUNCTION's CONTRACT, of two forms -/
theorem exF2_ok {P : Program} {T : TypeId → TInfo} {CT : Nat → List Ctr} {N : Nat} (hp : ∀ M, Place P T (CT M)) {f : FuncId} {fn : Func} (hf : P.funcs[f]? = some fn) (hnm : (fn.name == "runtime.NumGoroutine") = false) (hb : fn.body.isSome = true) (pl : Pl)
    (ps : List PV) (hs : List (Nat × PO)) (cs : List Sc) (r1 r2 : PS) (own pu : Bool) (n1 n2 : List Nat) (hlen : (Nat.ble ps.length fn.ntmps && Nat.ble fn.ntmps 1000000) = true)
    (hres1 : ∀ y, (resE T (mkPS fn.ntmps r1 y) fn.results.toList).isSome = true) (hres2 : ∀ y, (resE T (mkPS fn.ntmps r2 y) fn.results.toList).isSome = true) (hown : own = false → hs = [] ∧ n1 = [] ∧ n2 = [])
    (hpu1 : ∀ y, (!pu || ((resG T (mkPS fn.ntmps r1 y) fn.results.toList).pu && puH (keepH' n1 (mkPS fn.ntmps r1 y).h))) = true)
    (hpu2 : ∀ y, (!pu || ((resG T (mkPS fn.ntmps r2 y) fn.results.toList).pu && puH (keepH' n2 (mkPS fn.ntmps r2 y).h))) = true)
    (M : Tup cs → Option (Sum (Tup r1.c) (Tup r2.c))) (hM : ∀ x, M x = exF2 T CT N (bodyOf fn) fn.ntmps pl ps hs cs r1 r2 x) :
    (Ctr.mk f ps hs cs (Sum (Tup r1.c) (Tup r2.c)) M (el2 (fun a => (resG T (mkPS fn.ntmps r1 a) fn.results.toList, keepH' n1 (mkPS fn.ntmps r1 a).h)) fun b => (resG T (mkPS fn.ntmps r2 b) fn.results.toList, keepH' n2 (mkPS fn.ntmps r2 b).h)) own pu).ok P := by
  have core : ∀ (x : Tup cs) (y : Sum (Tup r1.c) (Tup r2.c)), M x = some y → ∀ (rs : PS) (a : Tup rs.c) (names : List Nat), (∀ E', fin2 r1 r2 E' = some y → SLe P (encE E') (encE (mkPS E'.n rs a))) → (resE T (mkPS fn.ntmps rs a) fn.results.toList).isSome = true →
      RCX P f (encH (fillH hs (fillPs ps (splitT cs x)).2)) (encL (fillPs ps (splitT cs x)).1) (encH (keepH' names (mkPS fn.ntmps rs a).h)) (enc (resG T (mkPS fn.ntmps rs a) fn.results.toList)) := by
    intro x y hxy rs a names hle hres
    obtain ⟨c, hc⟩ := Option.isSome_iff_exists.1 hb
    have hbody : bodyOf fn = c := by simp only [bodyOf, hc]
    rw [hM, hbody] at hxy
    simp only [Bool.and_eq_true] at hlen
    cases N with
    | zero => cases hxy
    | succ M =>
    change exC T (CT M) M c pl ⟨fn.ntmps, entE 0 (fillPs ps (splitT cs x)).1, fillH hs (fillPs ps (splitT cs x)).2⟩ _ (finF2 r1 r2) = some y at hxy
    refine exF_core (hp M) hf hnm hc pl (fillPs ps (splitT cs x)).1 _ (by rw [fillPs_len]; exact Nat.le_of_ble_eq_true hlen.1) (Nat.le_of_ble_eq_true hlen.2) (finF2 r1 r2) y rs a names (fun q E' hk => ?_) hres hxy
    unfold finF2 at hk
    split at hk
    · exact ⟨.inl rfl, hle E' hk⟩
    · exact ⟨.inr rfl, hle E' hk⟩
    · cases hk
  refine ⟨fun ho => (hown ho).1, fun x y0 hxy => ?_⟩
  obtain ⟨y, hy0⟩ : ∃ y : Sum (Tup r1.c) (Tup r2.c), y = y0 := ⟨_, rfl⟩
  subst hy0
  cases y with
  | inl a =>
    refine ⟨_, _, fun _ _ => rfl, fun ho => ?_, fun hq => ?_, core x _ hxy r1 a n1 (fun E' h => (fin2_ok h).1 a rfl) (hres1 a)⟩
    · rw [(hown ho).2.1]
      exact keepH'_nil _
    · have := hpu1 a
      simp only at hq
      rw [hq] at this
      simpa using this
  | inr b =>
    refine ⟨_, _, fun _ _ => rfl, fun ho => ?_, fun hq => ?_, core x _ hxy r2 b n2 (fun E' h => (fin2_ok h).2 b rfl) (hres2 b)⟩
    · rw [(hown ho).2.2]
      exact keepH'_nil _
    · have := hpu2 b
      simp only at hq
      rw [hq] at this
      simpa using this
theorem Place.cons {P : Program} {T : TypeId → TInfo} {CT : List Ctr} {c : Ctr} (hp : Place P T CT) (hc : c.ok P) : Place P T (c :: CT) :=
  ⟨hp.t, fun d hd => by
    rcases List.mem_cons.1 hd with rfl | hd
    · exact hc
    · exact hp.c d hd, hp.m⟩
end
end Go.Proofs.Ytggnolfcgaglfaa
