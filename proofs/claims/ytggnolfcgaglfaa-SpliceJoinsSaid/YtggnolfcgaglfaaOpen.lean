/- A law's arguments, opened: what is read as data of a type has the type's code. -/
import Derived.Test.YtggnolfcgaglfaaExL
import Derived.Test.YtggnolfcgaglfaaLaw
set_option linter.unusedVariables false
set_option linter.unusedSimpArgs false
namespace Go.Proofs.Ytggnolfcgaglfaa
open Go Go.ChangeShapes Go.WideShapes Go.ChangeAt Go.RowKit

/-- a value as it may come in -/
def Fits : (s : Sc) → s.Val → Prop
  | .i k, x => k.min ≤ x ∧ x ≤ k.max
  | .b, _ => True
  | .sl r, xs => xs.length ≤ maxLen ∧ ∀ x ∈ xs, Fits r x
  | .pr a c, p => Fits a p.1 ∧ Fits c p.2
  | .u, _ => True
def fieldsC (P : Program) (chk : TypeId → Sc → Bool) : List Field → Nat → Sc → Bool
  | [], _, _ => false
  | [f], o, s => chk f.type s && Nat.beq f.offset o && Nat.beq (P.cellsOf f.type) s.w
  | f :: g :: r, o, .pr s t => chk f.type s && Nat.beq f.offset o && Nat.beq (P.cellsOf f.type) s.w && fieldsC P chk (g :: r) (o + s.w) t
  | _ :: _ :: _, _, _ => false
def arrC (w : Nat) (chk : Sc → Bool) : Nat → Sc → Bool
  | 0, _ => false
  | 1, s => chk s && Nat.beq w s.w
  | n + 2, .pr s t => chk s && Nat.beq w s.w && arrC w chk (n + 1) t
  | _ + 2, _ => false
/-- the type has the code -/
def tyC (P : Program) : Nat → TypeId → Sc → Bool
  | 0, _, _ => false
  | d + 1, t, s => match P.underlying t with
    | some (.int k) => (match s with
      | .i l => decide (k = l)
      | _ => false)
    | some .bool => (match s with
      | .b => true
      | _ => false)
    | some (.slice e) => (match s with
      | .sl r => tyC P d e r && Nat.beq (P.cellsOf e) r.w && Nat.blt 0 r.w
      | _ => false)
    | some (.struct fs) => fieldsC P (tyC P d) fs.toList 0 s && Nat.beq (P.cellsOf t) s.w
    | some (.array n e) => arrC (P.cellsOf e) (tyC P d e) n s && Nat.beq (P.cellsOf t) s.w
    | _ => false
/-- what a world's memory holds -/
def Rw (w : World) (b o : Nat) (u : Value) : Prop := w.cell? ⟨b, o, none⟩ = some u
def b0 (w : World) : Bs := ⟨w, fun _ => False, fun _ => none, fun _ => undef⟩
def e0 : Env := ⟨fun _ => none, fun _ => undef, fun _ => 0⟩
def Tabs (w : World) : Prop := ∀ b o u, GT b o u → w.cell? ⟨b, o, none⟩ = some u
theorem sr0 (w : World) (hT : Tabs w) : SR (b0 w) (Rw w) e0 [] w :=
  ⟨⟨rfl, rfl, rfl, Nat.le_refl _, fun _ _ => rfl⟩, ⟨fun b o u h => ⟨h, fun hm => by
    have := World.block_lt_of_cell? w _ h
    rcases hm with hm | hm
    · simp only [b0] at hm; simp only at this; omega
    · exact hm⟩, hT⟩, fun _ _ h => by simp [hget] at h, fun _ _ _ h => by simp [hget] at h, fun _ _ _ _ _ h => by simp [hget] at h, fun _ _ => ⟨rfl, rfl⟩⟩
theorem rdx0 {w : World} {b o : Nat} {u : Value} (h : Rw w b o u) : RDx (b0 w) (Rw w) e0 [] w b o u := ⟨h, fun _ => h, fun _ _ h => by simp [hget] at h⟩
theorem beq_of {a b : Nat} (h : Nat.beq a b = true) : a = b := Nat.eq_of_beq_eq_true h
theorem blt_of {a b : Nat} (h : Nat.blt a b = true) : a < b := Nat.le_of_ble_eq_true h
section
variable {H : Type} {enc : TypeId × Value → H} {P : Program} {w : World} {base : Nat} {spare : Nat → Bool} {held : Bool}
def OpensAt (enc : TypeId × Value → H) (P : Program) (w : World) (base : Nat) (spare : Nat → Bool) (held : Bool) (n : Nat) (t : TypeId) (s : Sc) : Prop :=
  ∀ cs x, DataW.trod enc P w base spare held n t cs = some x → ∃ y : s.Val, LR (VR (Rw w) none) (encC s y) cs ∧ Fits s y
theorem open_fields {chk : TypeId → Sc → Bool} {n : Nat} (hc : ∀ t s, chk t s = true → OpensAt enc P w base spare held n t s) (cs : List Value) :
    ∀ (fs : List Field) (o : Nat) (s : Sc) (xs : List (DataW H × List MemPlace)), fieldsC P chk fs o s = true → xs.length = fs.length →
      (∀ (i : Nat) (f : Field), fs[i]? = some f → DataW.trod enc P w base spare held n f.type ((cs.drop f.offset).take (P.cellsOf f.type)) = xs[i]?) →
      ∃ y : s.Val, LR (VR (Rw w) none) (encC s y) ((cs.drop o).take s.w) ∧ Fits s y
  | [], o, s, xs, h, _, _ => by simp [fieldsC] at h
  | [f], o, s, xs, h, hl, hx => by
    simp only [fieldsC, Bool.and_eq_true] at h
    obtain ⟨⟨h1, h2⟩, h3⟩ := h
    have := hx 0 f rfl
    rw [beq_of h2, beq_of h3] at this
    have hl0 : 0 < xs.length := by rw [hl]; simp
    rw [List.getElem?_eq_getElem hl0] at this
    exact hc _ _ h1 _ _ this
  | f :: g :: r, o, s, xs, h, hl, hx => by
    cases s with
    | pr a c =>
      simp only [fieldsC, Bool.and_eq_true] at h
      obtain ⟨⟨⟨h1, h2⟩, h3⟩, h4⟩ := h
      have := hx 0 f rfl
      rw [beq_of h2, beq_of h3] at this
      have hl0 : 0 < xs.length := by rw [hl]; simp
      rw [List.getElem?_eq_getElem hl0] at this
      obtain ⟨y1, hy1, f1⟩ := hc _ _ h1 _ _ this
      obtain ⟨y2, hy2, f2⟩ := open_fields hc cs (g :: r) (o + a.w) c xs.tail h4 (by simp [hl]) (fun i f' hf => by
        have := hx (i + 1) f' (by simpa using hf)
        rw [this]; cases xs <;> simp)
      refine ⟨(y1, y2), ?_, f1, f2⟩
      rw [encC, Sc.w, List.take_add]
      rw [List.drop_drop]
      exact hy1.append hy2
    | _ => simp [fieldsC] at h
theorem open_arr {chk : Sc → Bool} {n : Nat} {e : TypeId} {ew : Nat} (hc : ∀ s, chk s = true → OpensAt enc P w base spare held n e s) (cs : List Value) :
    ∀ (m : Nat) (o : Nat) (s : Sc), arrC ew chk m s = true →
      (∀ i, i < m → ∃ x, DataW.trod enc P w base spare held n e ((cs.drop (o + i * ew)).take ew) = some x) →
      ∃ y : s.Val, LR (VR (Rw w) none) (encC s y) ((cs.drop o).take s.w) ∧ Fits s y
  | 0, o, s, h, _ => by simp [arrC] at h
  | 1, o, s, h, hx => by
    simp only [arrC, Bool.and_eq_true] at h
    obtain ⟨h1, h2⟩ := h
    obtain ⟨x, this⟩ := hx 0 (by omega)
    rw [Nat.zero_mul, Nat.add_zero, beq_of h2] at this
    exact hc _ h1 _ _ this
  | m + 2, o, s, h, hx => by
    cases s with
    | pr a c =>
      simp only [arrC, Bool.and_eq_true] at h
      obtain ⟨⟨h1, h2⟩, h3⟩ := h
      obtain ⟨x, this⟩ := hx 0 (by omega)
      have e2 := beq_of h2
      rw [Nat.zero_mul, Nat.add_zero, e2] at this
      obtain ⟨y1, hy1, f1⟩ := hc _ h1 _ _ this
      obtain ⟨y2, hy2, f2⟩ := open_arr hc cs (m + 1) (o + a.w) c h3 (fun i hi => by
        obtain ⟨x, hx'⟩ := hx (i + 1) (by omega)
        refine ⟨x, ?_⟩
        rw [← hx', e2]
        congr 3
        rw [Nat.add_mul]; omega)
      refine ⟨(y1, y2), ?_, f1, f2⟩
      rw [encC, Sc.w, List.take_add]
      rw [List.drop_drop]
      exact hy1.append hy2
    | _ => simp [arrC] at h
theorem open_rows {n : Nat} {e : TypeId} {r : Sc} (hr : OpensAt enc P w base spare held n e r) (hce : P.cellsOf e = r.w) (h0 : 0 < r.w) {a : Addr} {len : Nat} {elems : List (DataW H × List MemPlace)} (hel : elems.length = len)
    (he : ∀ i, i < len → (w.cells? base (a.add (i * P.cellsOf e)) (P.cellsOf e)).bind (DataW.trod enc P w base spare held n e) = elems[i]?) :
    ∀ m, m ≤ len → ∃ ys : List r.Val, ys.length = m ∧ (∀ y ∈ ys, Fits r y) ∧ ∃ us, LR (VR (Rw w) none) (ys.map (encC r)).flatten us ∧ ∀ j u, us[j]? = some u → a.spot = none ∧ w.cell? ⟨a.block, a.off + j, none⟩ = some u
  | 0, _ => ⟨[], rfl, by simp, [], LR.nil, by simp⟩
  | m + 1, hm => by
    obtain ⟨ys, hl, hf, us, hlr, hus⟩ := open_rows hr hce h0 hel he m (by omega)
    have h := he m (by omega)
    have hml : m < elems.length := by omega
    rw [List.getElem?_eq_getElem hml] at h
    obtain ⟨cs, hcs, hx⟩ := Option.bind_eq_some_iff.1 h
    obtain ⟨y, hy, fy⟩ := hr _ _ hx
    obtain ⟨hb, hcl, hcc⟩ := World.cells?_some hcs
    rw [hce] at hcl hcc
    have hlen : us.length = m * r.w := by
      rw [hlr.1, flatten_len (sz := r.w)]
      · simp [hl]
      · intro q hq
        obtain ⟨z, _, rfl⟩ := List.mem_map.1 hq
        exact encC_len r z
    have hspot : a.spot = none := by
      have := hcc 0 h0
      rw [List.getElem?_eq_getElem (by omega)] at this
      by_cases hz : m = 0
      · subst hz
        have hzz : (a.add (0 * r.w)).add 0 = a := by simp [Addr.add]
        rw [hzz] at this
        unfold World.cell? at this
        split at this
        · split at this
          · cases this
          · rename_i hs; simpa using hs
        · cases this
      · have hu : ∃ u, us[0]? = some u := ⟨us[0]'(by rw [hlen]; exact Nat.mul_pos (by omega) h0), List.getElem?_eq_getElem _⟩
        obtain ⟨u, hu⟩ := hu
        exact (hus 0 u hu).1
    refine ⟨ys ++ [y], by simp [hl], fun z hz => ?_, us ++ cs, ?_, fun j u hj => ⟨hspot, ?_⟩⟩
    · rcases List.mem_append.1 hz with hz | hz
      · exact hf z hz
      · simp only [List.mem_singleton] at hz; subst hz; exact fy
    · rw [List.map_append, List.flatten_append]
      simpa using hlr.append hy
    · by_cases hjl : j < us.length
      · rw [List.getElem?_append_left hjl] at hj
        exact (hus j u hj).2
      · rw [List.getElem?_append_right (by omega)] at hj
        have hjc : j - us.length < cs.length := (List.getElem?_eq_some_iff.1 hj).1
        have := hcc (j - us.length) (by omega)
        rw [hj] at this
        have ea : (a.add (m * r.w)).add (j - us.length) = ⟨a.block, a.off + j, none⟩ := by
          obtain ⟨b, o, sp⟩ := a
          simp only at hspot
          subst hspot
          rw [add_plain, add_plain]
          have hj2 : us.length ≤ j := by omega
          rw [hlen] at hj2 ⊢
          generalize m * r.w = q at hj2
          have e3 : o + q + (j - q) = o + j := by omega
          rw [e3]
        rw [ea] at this
        exact this
theorem open_code : ∀ (d : Nat) (t : TypeId) (s : Sc), tyC P d t s = true → ∀ n, OpensAt enc P w base spare held n t s
  | 0, t, s, h, n => by simp [tyC] at h
  | d + 1, t, s, h, n => by
    intro cs x hx
    unfold tyC at h
    split at h
    · rename_i k hk
      cases s with
      | i l =>
        obtain rfl : k = l := of_decide_eq_true h
        obtain ⟨z, rfl, -, hw⟩ := DataW.trod_int hk hx
        simp only [Lit.wf, Bool.and_eq_true, decide_eq_true_eq] at hw
        exact ⟨z, LR.cons .v LR.nil, hw⟩
      | _ => simp at h
    · rename_i hk
      cases s with
      | b =>
        obtain ⟨z, rfl, -⟩ := DataW.trod_bool hk hx
        exact ⟨z, LR.cons .v LR.nil, trivial⟩
      | _ => simp at h
    · rename_i e hk
      cases s with
      | sl r =>
        simp only [Bool.and_eq_true] at h
        obtain ⟨⟨h1, h2⟩, h3⟩ := h
        rcases DataW.trod_slice hk hx with ⟨rfl, -⟩ | ⟨a, len, cap, elems, rest, m, rfl, rfl, -, hb, hlc, hcm, hel, he, -, -⟩
        · refine ⟨([] : List r.Val), LR.cons ?_ LR.nil, ?_⟩
          · exact .sl (rows := []) [] (by simp) (by simp) rfl (by simp) (Nat.le_refl _) (Nat.zero_le _) (by simp) (by simp)
          · exact ⟨Nat.zero_le _, by simp⟩
        · obtain ⟨ys, hl, hf, us, hlr, hus⟩ := open_rows (open_code d e r h1 m) (beq_of h2) (blt_of h3) hel he len (Nat.le_refl _)
          refine ⟨ys, LR.cons ?_ LR.nil, ?_⟩
          · have hlm : (List.map (encC r) ys).length = len := by simp [hl]
            have := VR.sl (Rd := Rw w) (E := none) (tight := false) (sz := r.w) (rows := List.map (encC r) ys) (a := some a) (cap := cap) us
              (fun q hq => by obtain ⟨z, _, rfl⟩ := List.mem_map.1 hq; exact encC_len r z)
              (fun c hc => by
                obtain ⟨q, hq, hcq⟩ := List.mem_flatten.1 hc
                obtain ⟨z, _, rfl⟩ := List.mem_map.1 hq
                exact encC_one r z c hcq)
              hlr.1 hlr.2 (by omega) hcm (by simp) (fun hne => by
                have hp : 0 < us.length := List.length_pos_iff.2 hne
                have hsp := (hus 0 us[0] (List.getElem?_eq_getElem hp)).1
                obtain ⟨b, o, sp⟩ := a
                simp only at hsp
                subst hsp
                exact ⟨b, o, rfl, fun j u hj => (hus j u hj).2⟩)
            rw [hlm] at this
            exact this
          · exact ⟨by omega, hf⟩
      | _ => simp at h
    · rename_i fs hk
      simp only [Bool.and_eq_true] at h
      obtain ⟨h1, h2⟩ := h
      obtain ⟨xs, m, rfl, -, hcl, hxl, hxi⟩ := DataW.trod_struct hk hx
      obtain ⟨y, hy, fy⟩ := open_fields (fun t s hts => open_code d t s hts m) cs fs.toList 0 s xs h1 (by simpa using hxl) (fun i f hf => hxi i f (by simpa using hf))
      refine ⟨y, ?_, fy⟩
      rw [List.drop_zero, List.take_of_length_le (by rw [hcl, beq_of h2]; exact Nat.le_refl _)] at hy
      exact hy
    · rename_i m e hk
      simp only [Bool.and_eq_true] at h
      obtain ⟨h1, h2⟩ := h
      obtain ⟨xs, m', rfl, -, hcl, hxl, hxi⟩ := DataW.trod_array hk hx
      obtain ⟨y, hy, fy⟩ := open_arr (ew := P.cellsOf e) (fun s hts => open_code d e s hts m') cs m 0 s h1 (fun i hi => by
        have := hxi i hi
        have hil : i < xs.length := by omega
        rw [List.getElem?_eq_getElem hil] at this
        exact ⟨_, by rw [Nat.zero_add]; exact this⟩)
      refine ⟨y, ?_, fy⟩
      rw [List.drop_zero, List.take_of_length_le (by rw [hcl, beq_of h2]; exact Nat.le_refl _)] at hy
      exact hy
    · cases h
/-- is it a struct's or an array's type? -/
def aggB (P : Program) (t : TypeId) : Bool := match P.underlying t with
  | some (.struct _) => true
  | some (.array _ _) => true
  | _ => false
theorem cells_one {v c : Value} (h : v.cells.toList = [c]) (hn : ∀ cs, v ≠ .agg cs) : v = c := by
  cases v <;> first | (simp only [Value.cells, List.cons.injEq, and_true] at h; exact h) | (exact absurd rfl (hn _))
/-- AN ARGUMENT -/
theorem open_arg {r : Reach} {b0 d : Nat} {t : TypeId} {s : Sc} {v : Value} {x : DataW H} {ps : List MemPlace} (hs : tyC P d t s = true) (hv : Value.okWide P w r b0 t v) (h : DataW.Trod enc P w base spare held t v x ps) :
    ∃ y : s.Val, Fits s y ∧ (aggB P t = true → VR (Rw w) none (.ag (encC s y)) v) ∧ (aggB P t = false → VR (Rw w) none (encS s y) v) := by
  obtain ⟨n, h⟩ := h
  obtain ⟨y, hy, fy⟩ := open_code d t s hs n _ _ h
  refine ⟨y, fy, fun ha => ?_, fun ha => ?_⟩
  · unfold aggB at ha
    unfold Value.okWide at hv
    have hcs : ∃ cs, v = .agg cs := by
      split at ha
      · rename_i hk; rw [hk] at hv; obtain ⟨cs, h, -⟩ := hv; exact ⟨cs, h⟩
      · rename_i hk; rw [hk] at hv; obtain ⟨cs, h, -⟩ := hv; exact ⟨cs, h⟩
      · cases ha
    obtain ⟨cs, rfl⟩ := hcs
    have := VR.ag (E := none) (Rd := Rw w) cs.toList hy.1 hy.2
    simpa using this
  · cases d with
    | zero => simp [tyC] at hs
    | succ d =>
      unfold tyC at hs
      unfold aggB at ha
      split at hs
      · rename_i k hk
        cases s with
        | i l =>
          obtain ⟨z, rfl⟩ := okWide_int hk hv
          have h1 := hy.2 0 _ _ rfl rfl
          exact h1
        | _ => simp at hs
      · rename_i hk
        cases s with
        | b =>
          obtain ⟨z, rfl⟩ := okWide_bool hk hv
          have h1 := hy.2 0 _ _ rfl rfl
          exact h1
        | _ => simp at hs
      · rename_i e hk
        cases s with
        | sl r =>
          obtain ⟨a, len, cap, rfl⟩ := okWide_slice hk hv
          have h1 := hy.2 0 _ _ rfl rfl
          exact h1
        | _ => simp at hs
      · rename_i fs hk; rw [hk] at ha; cases ha
      · rename_i m e hk; rw [hk] at ha; cases ha
      · cases hs
end
theorem fits_i64 {x : Int} (h : Fits (.i .i64) x) : -9223372036854775808 ≤ x ∧ x ≤ 9223372036854775807 := by
  simpa [Fits, IntKind.min, IntKind.max, IntKind.signed, IntKind.bits] using h
theorem fits_u8 {x : Int} (h : Fits (.i .u8) x) : 0 ≤ x ∧ x ≤ 255 := by
  simpa [Fits, IntKind.min, IntKind.max, IntKind.signed, IntKind.bits] using h
theorem fits_u32 {x : Int} (h : Fits (.i .u32) x) : 0 ≤ x ∧ x ≤ 4294967295 := by
  simpa [Fits, IntKind.min, IntKind.max, IntKind.signed, IntKind.bits] using h
theorem fits_len {r : Sc} {xs : List r.Val} (h : Fits (.sl r) xs) : xs.length ≤ 9223372036854775807 := h.1
/-- from a contract to the call -/
theorem calls_of_ctr {P : Program} {f : FuncId} {ps : List PV} {cs : List Sc} {α : Type} {M : Tup cs → Option α} {el : α → (R : Type) → (EV → EHp → Option R) → Option R} {own pu : Bool} (hc : Ctr.ok P ⟨f, ps, [], cs, α, M, el, own, pu⟩) {x : Tup cs} {y : α} (hm : M x = some y)
    {w : World} (hT : Tabs w) {vs : List Value} (hv : LR (VR (Rw w) none) (encL (fillPs ps (splitT cs x)).1) vs) {r : Value} (hr : el y EV (fun e _ => some e) = some (.sc .b true)) (hb : r = .bool true) : Calls P f vs.toArray w fun e w' => e = .returned r ∧ Ext w w' := by
  obtain ⟨c, H, h1, _, _, h2⟩ := hc.2 x y hm
  have hr : (some c : Option EV) = some (.sc .b true) := (h1 EV fun e _ => some e).symm.trans hr
  obtain rfl := Option.some.inj hr
  refine (h2.2 (b0 w) (Rw w) e0 w vs (sr0 w hT) (hv.imp fun _ _ h => (h.mono fun _ _ _ h => rdx0 h).some_of_none)).mono fun e w' h => ?_
  obtain ⟨v, en, rfl, hs, hvr⟩ := h
  change VR _ _ (enc (.sc .b true)) v at hvr
  refine ⟨?_, hs.ext.ext fun _ h => h⟩
  subst hb
  cases hvr
  rfl
end Go.Proofs.Ytggnolfcgaglfaa
