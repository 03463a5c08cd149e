/- StoreAlone: the seat's texts as one (4 of 6; printed by wip/prune.py). -/
import Derived.Test.YtdahghkmejnlgaaZStoreAlone3
section
set_option linter.unusedVariables false
set_option linter.unusedSimpArgs false
namespace Go.Proofs.Ytdahghkmejnlgaa
open Go Go.ChangeShapes Go.WideShapes Go.ChangeAt Go.RowKit
/-- a value aS it may come in -/
def Fits : (s : Sc) → s.Val → Prop
  | .i k, x => k.min ≤ x ∧ x ≤ k.max
  | .b, _ => True
  | .sl r, xs => xs.length ≤ maxLen ∧ ∀ x ∈ xs, Fits r x
  | .pr a c, p => Fits a p.1 ∧ Fits c p.2
  | .u, _ => True
/-- no greater than the form's own reach -/
def Siz : (s : Sc) → s.Val → Prop
  | .sl r, xs => xs.length ≤ reachBytes ∧ ∀ x ∈ xs, Siz r x
  | .pr a c, p => Siz a p.1 ∧ Siz c p.2
  | _, _ => True
def fieldsC (P : Program) (chk : TypeId → Sc → Bool) : List Field → Nat → Sc → Bool
  | [], _, _ => false
  | [f], o, s => chk f.type s && Nat.beq f.offset o && Nat.beq (P.cellsOf f.type) s.w
  | f :: g :: r, o, .pr s t => chk f.type s && Nat.beq f.offset o && Nat.beq (P.cellsOf f.type) s.w && fieldsC P chk (g :: r) (o + s.w) t
  | _ :: _ :: _, _, _ => false
def arrC (w : Nat) (chk : Sc → Bool) : Nat → Sc → Bool
  | 0, _ => false
  | 1, s => chk s && Nat.beq w s.w
  | n + 2, .pr s t => chk s && Nat.beq w s.w && arrC w chk (n + 1) t
  | _ + 2, _ => false
/-- the type has the code -/
def tyC (P : Program) : Nat → TypeId → Sc → Bool
  | 0, _, _ => false
  | d + 1, t, s => match P.underlying t with
    | some (.int k) => (match s with
      | .i l => decide (k = l)
      | _ => false)
    | some .bool => (match s with
      | .b => true
      | _ => false)
    | some (.slice e) => (match s with
      | .sl r => tyC P d e r && Nat.beq (P.cellsOf e) r.w && Nat.blt 0 r.w && Nat.blt 0 (P.bytesOf e)
      | _ => false)
    | some (.struct fs) => fieldsC P (tyC P d) fs.toList 0 s && Nat.beq (P.cellsOf t) s.w
    | some (.array n e) => arrC (P.cellsOf e) (tyC P d e) n s && Nat.beq (P.cellsOf t) s.w
    | _ => false
/-- what a world's memory holds -/
def Rw (w : World) (b o : Nat) (u : Value) : Prop := w.cell? ⟨b, o, none⟩ = some u
def b0 (w : World) : Bs := ⟨w, fun _ => False, fun _ => none, fun _ => undef, []⟩
def e0 : Env := ⟨fun _ => none, fun _ => undef, fun _ => 0⟩
def Tabs (w : World) : Prop := ∀ b o u, GT b o u → w.cell? ⟨b, o, none⟩ = some u
theorem sr0 (w : World) (hT : Tabs w) : SR (b0 w) (Rw w) e0 [] w :=
  ⟨⟨rfl, rfl, rfl, Nat.le_refl _, fun _ _ => rfl⟩, ⟨fun b o u h => ⟨h, fun hm => by
    have := World.block_lt_of_cell? w _ h
    rcases hm with hm | hm
    · simp only [b0] at hm; simp only at this; omega
    · exact hm⟩, hT⟩, fun _ _ h => by simp [hget] at h, fun _ _ _ h => by simp [hget] at h, fun _ _ _ _ _ h => by simp [hget] at h, fun _ _ => ⟨rfl, rfl⟩⟩
theorem rdx0 {w : World} {b o : Nat} {u : Value} (h : Rw w b o u) : RDx (b0 w) (Rw w) e0 [] w b o u := ⟨h, fun _ => h, fun _ _ h => by simp [hget] at h⟩
theorem beq_of {a b : Nat} (h : Nat.beq a b = true) : a = b := Nat.eq_of_beq_eq_true h
theorem blt_of {a b : Nat} (h : Nat.blt a b = true) : a < b := Nat.le_of_ble_eq_true h
section
variable {H : Type} {enc : TypeId × Value → H} {P : Program} {w : World} {base : Nat} {spare : Nat → Bool} {held : Bool}
def wOk (P : Program) (t : TypeId) (x : DataW H) : Prop := ∀ n ∈ x.weights P t, n ≤ reachBytes
theorem wOk_all {e : TypeId} : ∀ {l : List (DataW H × List MemPlace)}, (∀ n ∈ DataW.weightsAll P e (l.map (·.1)), n ≤ reachBytes) → ∀ (i : Nat) x, l[i]? = some x → wOk P e x.1
  | [], _, i, x, h => by simp at h
  | y :: l, hw, i, x, h => by
    simp only [List.map_cons, DataW.weightsAll, List.mem_append] at hw
    cases i with
    | zero => simp at h; subst h; exact fun n hn => hw n (.inl hn)
    | succ i => exact wOk_all (fun n hn => hw n (.inr hn)) i x (by simpa using h)
theorem wOk_each : ∀ {fs : List Field} {l : List (DataW H × List MemPlace)}, (∀ n ∈ DataW.weightsEach P (fs.map (·.type)) (l.map (·.1)), n ≤ reachBytes) → ∀ (i : Nat) f x, fs[i]? = some f → l[i]? = some x → wOk P f.type x.1
  | [], _, _, i, f, x, h, _ => by simp at h
  | _ :: _, [], _, i, f, x, _, h => by simp at h
  | g :: fs, y :: l, hw, i, f, x, hf, h => by
    simp only [List.map_cons, DataW.weightsEach, List.mem_append] at hw
    cases i with
    | zero => simp at h hf; subst h; subst hf; exact fun n hn => hw n (.inl hn)
    | succ i => exact wOk_each (fun n hn => hw n (.inr hn)) i f x (by simpa using hf) (by simpa using h)
def OpensAt (enc : TypeId × Value → H) (P : Program) (w : World) (base : Nat) (spare : Nat → Bool) (held : Bool) (n : Nat) (t : TypeId) (s : Sc) : Prop :=
  ∀ cs x, DataW.trod enc P w base spare held n t cs = some x → ∃ y : s.Val, LR (VR (Rw w) none) (encC s y) cs ∧ Fits s y ∧ (wOk P t x.1 → Siz s y)
theorem open_fields {WA : Prop} {chk : TypeId → Sc → Bool} {n : Nat} (hc : ∀ t s, chk t s = true → OpensAt enc P w base spare held n t s) (cs : List Value) :
    ∀ (fs : List Field) (o : Nat) (s : Sc) (xs : List (DataW H × List MemPlace)), fieldsC P chk fs o s = true → xs.length = fs.length →
      (∀ (i : Nat) (f : Field), fs[i]? = some f → DataW.trod enc P w base spare held n f.type ((cs.drop f.offset).take (P.cellsOf f.type)) = xs[i]?) → (WA → ∀ (i : Nat) f x, fs[i]? = some f → xs[i]? = some x → wOk P f.type x.1) →
      ∃ y : s.Val, LR (VR (Rw w) none) (encC s y) ((cs.drop o).take s.w) ∧ Fits s y ∧ (WA → Siz s y)
  | [], o, s, xs, h, _, _, _ => by simp [fieldsC] at h
  | [f], o, s, xs, h, hl, hx, hwa => by
    simp only [fieldsC, Bool.and_eq_true] at h
    obtain ⟨⟨h1, h2⟩, h3⟩ := h
    have := hx 0 f rfl
    rw [beq_of h2, beq_of h3] at this
    have hl0 : 0 < xs.length := by rw [hl]; simp
    rw [List.getElem?_eq_getElem hl0] at this
    obtain ⟨y, hy, fy, sy⟩ := hc _ _ h1 _ _ this
    exact ⟨y, hy, fy, fun ha => sy (hwa ha 0 f _ rfl (List.getElem?_eq_getElem hl0))⟩
  | f :: g :: r, o, s, xs, h, hl, hx, hwa => by
    cases s with
    | pr a c =>
      simp only [fieldsC, Bool.and_eq_true] at h
      obtain ⟨⟨⟨h1, h2⟩, h3⟩, h4⟩ := h
      have := hx 0 f rfl
      rw [beq_of h2, beq_of h3] at this
      have hl0 : 0 < xs.length := by rw [hl]; simp
      rw [List.getElem?_eq_getElem hl0] at this
      obtain ⟨y1, hy1, f1, s1⟩ := hc _ _ h1 _ _ this
      obtain ⟨y2, hy2, f2, s2⟩ := open_fields hc cs (g :: r) (o + a.w) c xs.tail h4 (by simp [hl]) (fun i f' hf => by
        have := hx (i + 1) f' (by simpa using hf)
        rw [this]; cases xs <;> simp) (fun ha i f' x hf hx' => hwa ha (i + 1) f' x (by simpa using hf) (by cases xs with | nil => simp at hx' | cons y ys => simpa using hx'))
      refine ⟨(y1, y2), ?_, ⟨f1, f2⟩, fun ha => ⟨s1 (hwa ha 0 f _ rfl (List.getElem?_eq_getElem hl0)), s2 ha⟩⟩
      rw [encC, Sc.w, List.take_add]
      rw [List.drop_drop]
      exact hy1.append hy2
    | _ => simp [fieldsC] at h
theorem open_arr {WA : Prop} {chk : Sc → Bool} {n : Nat} {e : TypeId} {ew : Nat} (hc : ∀ s, chk s = true → OpensAt enc P w base spare held n e s) (cs : List Value) :
    ∀ (m : Nat) (o : Nat) (s : Sc), arrC ew chk m s = true →
      (∀ i, i < m → ∃ x, DataW.trod enc P w base spare held n e ((cs.drop (o + i * ew)).take ew) = some x ∧ (WA → wOk P e x.1)) →
      ∃ y : s.Val, LR (VR (Rw w) none) (encC s y) ((cs.drop o).take s.w) ∧ Fits s y ∧ (WA → Siz s y)
  | 0, o, s, h, _ => by simp [arrC] at h
  | 1, o, s, h, hx => by
    simp only [arrC, Bool.and_eq_true] at h
    obtain ⟨h1, h2⟩ := h
    obtain ⟨x, this, hwx⟩ := hx 0 (by omega)
    rw [Nat.zero_mul, Nat.add_zero, beq_of h2] at this
    obtain ⟨y, hy, fy, sy⟩ := hc _ h1 _ _ this
    exact ⟨y, hy, fy, fun ha => sy (hwx ha)⟩
  | m + 2, o, s, h, hx => by
    cases s with
    | pr a c =>
      simp only [arrC, Bool.and_eq_true] at h
      obtain ⟨⟨h1, h2⟩, h3⟩ := h
      obtain ⟨x, this, hwx⟩ := hx 0 (by omega)
      have e2 := beq_of h2
      rw [Nat.zero_mul, Nat.add_zero, e2] at this
      obtain ⟨y1, hy1, f1, s1⟩ := hc _ h1 _ _ this
      obtain ⟨y2, hy2, f2, s2⟩ := open_arr hc cs (m + 1) (o + a.w) c h3 (fun i hi => by
        obtain ⟨x, hx', hwx'⟩ := hx (i + 1) (by omega)
        refine ⟨x, ?_, hwx'⟩
        rw [← hx', e2]
        congr 3
        rw [Nat.add_mul]; omega)
      refine ⟨(y1, y2), ?_, ⟨f1, f2⟩, fun ha => ⟨s1 (hwx ha), s2 ha⟩⟩
      rw [encC, Sc.w, List.take_add]
      rw [List.drop_drop]
      exact hy1.append hy2
    | _ => simp [arrC] at h
theorem open_rows {WA : Prop} {n : Nat} {e : TypeId} {r : Sc} (hr : OpensAt enc P w base spare held n e r) (hce : P.cellsOf e = r.w) (h0 : 0 < r.w) {a : Addr} {len : Nat} {elems : List (DataW H × List MemPlace)} (hel : elems.length = len)
    (he : ∀ i, i < len → (w.cells? base (a.add (i * P.cellsOf e)) (P.cellsOf e)).bind (DataW.trod enc P w base spare held n e) = elems[i]?) (hwa : WA → ∀ (i : Nat) x, elems[i]? = some x → wOk P e x.1) :
    ∀ m, m ≤ len → ∃ ys : List r.Val, ys.length = m ∧ ((∀ y ∈ ys, Fits r y) ∧ (WA → ∀ y ∈ ys, Siz r y)) ∧ ∃ us, LR (VR (Rw w) none) (ys.map (encC r)).flatten us ∧ ∀ j u, us[j]? = some u → a.spot = none ∧ w.cell? ⟨a.block, a.off + j, none⟩ = some u
  | 0, _ => ⟨[], rfl, by simp, [], LR.nil, by simp⟩
  | m + 1, hm => by
    obtain ⟨ys, hl, ⟨hf, hsz⟩, us, hlr, hus⟩ := open_rows hr hce h0 hel he hwa m (by omega)
    have h := he m (by omega)
    have hml : m < elems.length := by omega
    rw [List.getElem?_eq_getElem hml] at h
    obtain ⟨cs, hcs, hx⟩ := Option.bind_eq_some_iff.1 h
    obtain ⟨y, hy, fy, sy⟩ := hr _ _ hx
    obtain ⟨hb, hcl, hcc⟩ := World.cells?_some hcs
    rw [hce] at hcl hcc
    have hlen : us.length = m * r.w := by
      rw [hlr.1, flatten_len (sz := r.w)]
      · simp [hl]
      · intro q hq
        obtain ⟨z, _, rfl⟩ := List.mem_map.1 hq
        exact encC_len r z
    have hspot : a.spot = none := by
      have := hcc 0 h0
      rw [List.getElem?_eq_getElem (by omega)] at this
      by_cases hz : m = 0
      · subst hz
        have hzz : (a.add (0 * r.w)).add 0 = a := by simp [Addr.add]
        rw [hzz] at this
        unfold World.cell? at this
        split at this
        · split at this
          · cases this
          · rename_i hs; simpa using hs
        · cases this
      · have hu : ∃ u, us[0]? = some u := ⟨us[0]'(by rw [hlen]; exact Nat.mul_pos (by omega) h0), List.getElem?_eq_getElem _⟩
        obtain ⟨u, hu⟩ := hu
        exact (hus 0 u hu).1
    refine ⟨ys ++ [y], by simp [hl], ⟨fun z hz => ?_, fun ha z hz => ?_⟩, us ++ cs, ?_, fun j u hj => ⟨hspot, ?_⟩⟩
    · rcases List.mem_append.1 hz with hz | hz
      · exact hf z hz
      · simp only [List.mem_singleton] at hz; subst hz; exact fy
    · rcases List.mem_append.1 hz with hz | hz
      · exact hsz ha z hz
      · simp only [List.mem_singleton] at hz; subst hz; exact sy (hwa ha m _ (List.getElem?_eq_getElem hml))
    · rw [List.map_append, List.flatten_append]
      simpa using hlr.append hy
    · by_cases hjl : j < us.length
      · rw [List.getElem?_append_left hjl] at hj
        exact (hus j u hj).2
      · rw [List.getElem?_append_right (by omega)] at hj
        have hjc : j - us.length < cs.length := (List.getElem?_eq_some_iff.1 hj).1
        have := hcc (j - us.length) (by omega)
        rw [hj] at this
        have ea : (a.add (m * r.w)).add (j - us.length) = ⟨a.block, a.off + j, none⟩ := by
          obtain ⟨b, o, sp⟩ := a
          simp only at hspot
          subst hspot
          rw [add_plain, add_plain]
          have hj2 : us.length ≤ j := by omega
          rw [hlen] at hj2 ⊢
          generalize m * r.w = q at hj2
          have e3 : o + q + (j - q) = o + j := by omega
          rw [e3]
        rw [ea] at this
        exact this
theorem open_code : ∀ (d : Nat) (t : TypeId) (s : Sc), tyC P d t s = true → ∀ n, OpensAt enc P w base spare held n t s
  | 0, t, s, h, n => by simp [tyC] at h
  | d + 1, t, s, h, n => by
    intro cs x hx
    unfold tyC at h
    split at h
    · rename_i k hk
      cases s with
      | i l =>
        obtain rfl : k = l := of_decide_eq_true h
        obtain ⟨z, rfl, -, hw⟩ := DataW.trod_int hk hx
        simp only [Lit.wf, Bool.and_eq_true, decide_eq_true_eq] at hw
        exact ⟨z, LR.cons .v LR.nil, hw, fun _ => trivial⟩
      | _ => simp at h
    · rename_i hk
      cases s with
      | b =>
        obtain ⟨z, rfl, -⟩ := DataW.trod_bool hk hx
        exact ⟨z, LR.cons .v LR.nil, trivial, fun _ => trivial⟩
      | _ => simp at h
    · rename_i e hk
      cases s with
      | sl r =>
        simp only [Bool.and_eq_true] at h
        obtain ⟨⟨⟨h1, h2⟩, h3⟩, h4⟩ := h
        rcases DataW.trod_slice hk hx with ⟨rfl, -⟩ | ⟨a, len, cap, elems, rest, m, rfl, rfl, rfl, hb, hlc, hcm, hel, he, -, -⟩
        · refine ⟨([] : List r.Val), LR.cons ?_ LR.nil, ?_, fun _ => ⟨Nat.zero_le _, by simp⟩⟩
          · exact .sl (rows := []) [] (by simp) (by simp) rfl (by simp) (Nat.le_refl _) (Nat.zero_le _) (by simp) (by simp)
          · exact ⟨Nat.zero_le _, by simp⟩
        · have hwe : wOk P t (.slice (elems.map (·.1)) (rest.map (·.1)) : DataW H) → ((elems.length + rest.length) * P.bytesOf e ≤ reachBytes) ∧ ∀ (i : Nat) x, elems[i]? = some x → wOk P e x.1 := fun ha => by
            have e1 : DataW.weights P t (.slice (elems.map (·.1)) (rest.map (·.1)) : DataW H) = (elems.length + rest.length) * P.bytesOf e :: (DataW.weightsAll P e (elems.map (·.1)) ++ DataW.weightsAll P e (rest.map (·.1))) := by
              simp [DataW.weights, hk]
            unfold wOk at ha
            rw [e1] at ha
            exact ⟨ha _ (by simp), wOk_all fun n hn => ha n (by simp [hn])⟩
          obtain ⟨ys, hl, ⟨hf, hsz⟩, us, hlr, hus⟩ := open_rows (WA := wOk P t (.slice (elems.map (·.1)) (rest.map (·.1)) : DataW H)) (open_code d e r h1 m) (beq_of h2) (blt_of h3) hel he (fun ha => (hwe ha).2) len (Nat.le_refl _)
          refine ⟨ys, LR.cons ?_ LR.nil, ?_, fun ha => ⟨?_, hsz ha⟩⟩
          · have hlm : (List.map (encC r) ys).length = len := by simp [hl]
            have := VR.sl (Rd := Rw w) (E := none) (tight := false) (sz := r.w) (rows := List.map (encC r) ys) (a := some a) (cap := cap) us
              (fun q hq => by obtain ⟨z, _, rfl⟩ := List.mem_map.1 hq; exact encC_len r z)
              (fun c hc => by
                obtain ⟨q, hq, hcq⟩ := List.mem_flatten.1 hc
                obtain ⟨z, _, rfl⟩ := List.mem_map.1 hq
                exact encC_one r z c hcq)
              hlr.1 hlr.2 (by omega) hcm (by simp) (fun hne => by
                have hp : 0 < us.length := List.length_pos_iff.2 hne
                have hsp := (hus 0 us[0] (List.getElem?_eq_getElem hp)).1
                obtain ⟨b, o, sp⟩ := a
                simp only at hsp
                subst hsp
                exact ⟨b, o, rfl, fun j u hj => (hus j u hj).2⟩)
            rw [hlm] at this
            exact this
          · exact ⟨by omega, hf⟩
          · have h5 := (hwe ha).1
            have h6 : elems.length * 1 ≤ (elems.length + rest.length) * P.bytesOf e := Nat.mul_le_mul (Nat.le_add_right _ _) (blt_of h4)
            rw [hl, ← hel]; omega
      | _ => simp at h
    · rename_i fs hk
      simp only [Bool.and_eq_true] at h
      obtain ⟨h1, h2⟩ := h
      obtain ⟨xs, m, rfl, rfl, hcl, hxl, hxi⟩ := DataW.trod_struct hk hx
      obtain ⟨y, hy, fy, sy⟩ := open_fields (WA := wOk P t (.agg (xs.map (·.1)) : DataW H)) (fun t s hts => open_code d t s hts m) cs fs.toList 0 s xs h1 (by simpa using hxl) (fun i f hf => hxi i f (by simpa using hf)) (fun ha => by
        have e1 : DataW.weights P t (.agg (xs.map (·.1)) : DataW H) = DataW.weightsEach P (fs.toList.map (·.type)) (xs.map (·.1)) := by simp [DataW.weights, hk]
        unfold wOk at ha
        rw [e1] at ha
        exact wOk_each ha)
      refine ⟨y, ?_, fy, sy⟩
      rw [List.drop_zero, List.take_of_length_le (by rw [hcl, beq_of h2]; exact Nat.le_refl _)] at hy
      exact hy
    · rename_i m e hk
      simp only [Bool.and_eq_true] at h
      obtain ⟨h1, h2⟩ := h
      obtain ⟨xs, m', rfl, rfl, hcl, hxl, hxi⟩ := DataW.trod_array hk hx
      have hwe : wOk P t (.agg (xs.map (·.1)) : DataW H) → ∀ (i : Nat) x, xs[i]? = some x → wOk P e x.1 := fun ha => by
        have e1 : DataW.weights P t (.agg (xs.map (·.1)) : DataW H) = DataW.weightsAll P e (xs.map (·.1)) := by simp [DataW.weights, hk]
        unfold wOk at ha
        rw [e1] at ha
        exact wOk_all ha
      obtain ⟨y, hy, fy, sy⟩ := open_arr (WA := wOk P t (.agg (xs.map (·.1)) : DataW H)) (ew := P.cellsOf e) (fun s hts => open_code d e s hts m') cs m 0 s h1 (fun i hi => by
        have := hxi i hi
        have hil : i < xs.length := by omega
        rw [List.getElem?_eq_getElem hil] at this
        exact ⟨_, by rw [Nat.zero_add]; exact this, fun ha => hwe ha i _ (List.getElem?_eq_getElem hil)⟩)
      refine ⟨y, ?_, fy, sy⟩
      rw [List.drop_zero, List.take_of_length_le (by rw [hcl, beq_of h2]; exact Nat.le_refl _)] at hy
      exact hy
    · cases h
/-- is it a struct's or an array's type? -/
def aggB (P : Program) (t : TypeId) : Bool := match P.underlying t with
  | some (.struct _) => true
  | some (.array _ _) => true
  | _ => false
/-- AN ARGUMENT -/
theorem open_argz {r : Reach} {b0 d : Nat} {t : TypeId} {s : Sc} {v : Value} {x : DataW H} {ps : List MemPlace} (hs : tyC P d t s = true) (hv : Value.okWide P w r b0 t v) (h : DataW.Trod enc P w base spare held t v x ps) :
    ∃ y : s.Val, Fits s y ∧ (wOk P t x → Siz s y) ∧ (aggB P t = true → VR (Rw w) none (.ag (encC s y)) v) ∧ (aggB P t = false → VR (Rw w) none (encS s y) v) := by
  obtain ⟨n, h⟩ := h
  obtain ⟨y, hy, fy, sy⟩ := open_code d t s hs n _ _ h
  refine ⟨y, fy, sy, fun ha => ?_, fun ha => ?_⟩
  · unfold aggB at ha
    unfold Value.okWide at hv
    have hcs : ∃ cs, v = .agg cs := by
      split at ha
      · rename_i hk; rw [hk] at hv; obtain ⟨cs, h, -⟩ := hv; exact ⟨cs, h⟩
      · rename_i hk; rw [hk] at hv; obtain ⟨cs, h, -⟩ := hv; exact ⟨cs, h⟩
      · cases ha
    obtain ⟨cs, rfl⟩ := hcs
    have := VR.ag (E := none) (Rd := Rw w) cs.toList hy.1 hy.2
    simpa using this
  · cases d with
    | zero => simp [tyC] at hs
    | succ d =>
      unfold tyC at hs
      unfold aggB at ha
      split at hs
      · rename_i k hk
        cases s with
        | i l =>
          obtain ⟨z, rfl⟩ := okWide_int hk hv
          have h1 := hy.2 0 _ _ rfl rfl
          exact h1
        | _ => simp at hs
      · rename_i hk
        cases s with
        | b =>
          obtain ⟨z, rfl⟩ := okWide_bool hk hv
          have h1 := hy.2 0 _ _ rfl rfl
          exact h1
        | _ => simp at hs
      · rename_i e hk
        cases s with
        | sl r =>
          obtain ⟨a, len, cap, rfl⟩ := okWide_slice hk hv
          have h1 := hy.2 0 _ _ rfl rfl
          exact h1
        | _ => simp at hs
      · rename_i fs hk; rw [hk] at ha; cases ha
      · rename_i m e hk; rw [hk] at ha; cases ha
      · cases hs
end
theorem fits_u8 {x : Int} (h : Fits (.i .u8) x) : 0 ≤ x ∧ x ≤ 255 := by
  simpa [Fits, IntKind.min, IntKind.max, IntKind.signed, IntKind.bits] using h
/-- from a contract to the call -/
theorem calls_of_ctr {P : Program} {f : FuncId} {ps : List PV} {cs : List Sc} {α : Type} {M : Tup cs → Option α} {el : α → (R : Type) → (EV → EHp → Option R) → Option R} {own pu : Bool} (hc : Ctr.ok P ⟨f, ps, [], cs, α, M, el, own, pu⟩) {x : Tup cs} {y : α} (hm : M x = some y)
    {w : World} (hT : Tabs w) {vs : List Value} (hv : LR (VR (Rw w) none) (encL (fillPs ps (splitT cs x)).1) vs) {r : Value} (hr : el y EV (fun e _ => some e) = some (.sc .b true)) (hb : r = .bool true) : Calls P f vs.toArray w fun e w' => e = .returned r ∧ Ext w w' := by
  obtain ⟨c, H, h1, _, _, h2⟩ := hc.2 x y hm
  have hr : (some c : Option EV) = some (.sc .b true) := (h1 EV fun e _ => some e).symm.trans hr
  obtain rfl := Option.some.inj hr
  refine (h2.2 (b0 w) (Rw w) e0 w vs (sr0 w hT) (hv.imp fun _ _ h => (h.mono fun _ _ _ h => rdx0 h).some_of_none)).mono fun e w' h => ?_
  obtain ⟨v, en, rfl, hs, hvr⟩ := h
  change VR _ _ (enc (.sc .b true)) v at hvr
  refine ⟨?_, hs.ext.ext fun _ h => h⟩
  subst hb
  cases hvr
  rfl
end Go.Proofs.Ytdahghkmejnlgaa
end
section
set_option linter.unusedVariables false
namespace Go.Proofs.Ytdahghkmejnlgaa
open Go Go.RowKit
def ti1 : TInfo := { ty := some (false, 1), ze := some [Value.nilFunc] }
def ti2 : TInfo := { ty := some (false, 1), ze := some [Value.int IntKind.i64 0], ik := some IntKind.i64 }
def ti3 : TInfo := { ty := some (false, 1), ze := some [Value.int IntKind.i64 0], ik := some IntKind.i64 }
def ti4 : TInfo := { ty := some (false, 1), bo := true, ze := some [Value.bool false] }
def ti5 : TInfo := { ty := some (false, 1), ze := some [Value.int IntKind.u8 0], ik := some IntKind.u8 }
def ti6 : TInfo := { ty := some (false, 1), ze := some [Value.int IntKind.u8 0], ik := some IntKind.u8 }
def ti7 : TInfo := { ty := some (true, 4), fd := [(0, false, 1), (1, false, 1), (2, false, 1), (3, false, 1)], pl := some ([Value.int IntKind.i64 0, Value.int IntKind.i64 0, Value.bool false, Value.int IntKind.u8 0], [(0, 1), (1, 1), (2, 1), (3, 1)]), ze := some [Value.int IntKind.i64 0, Value.int IntKind.i64 0, Value.bool false, Value.int IntKind.u8 0], eq := some ((Sc.i IntKind.i64).pr ((Sc.i IntKind.i64).pr (Sc.b.pr (Sc.i IntKind.u8)))) }
def ti8 : TInfo := { ty := some (true, 4), fd := [(0, false, 1), (1, false, 1), (2, false, 1), (3, false, 1)], pl := some ([Value.int IntKind.i64 0, Value.int IntKind.i64 0, Value.bool false, Value.int IntKind.u8 0], [(0, 1), (1, 1), (2, 1), (3, 1)]), ze := some [Value.int IntKind.i64 0, Value.int IntKind.i64 0, Value.bool false, Value.int IntKind.u8 0], eq := some ((Sc.i IntKind.i64).pr ((Sc.i IntKind.i64).pr (Sc.b.pr (Sc.i IntKind.u8)))) }
def ti12 : TInfo := { ty := some (false, 1), ze := some [Value.int IntKind.u64 0], ik := some IntKind.u64 }
def ti15 : TInfo := { ty := some (false, 1), ze := some [Value.pointer none] }
def ti16 : TInfo := { ty := some (false, 1), ze := some [Value.pointer none] }
def ti17 : TInfo := { ty := some (false, 1), ze := some [Value.pointer none] }
def ti18 : TInfo := { ty := some (true, 1), fd := [(0, false, 1)], pl := some ([Value.pointer none], [(0, 1)]), ze := some [Value.pointer none] }
def ti19 : TInfo := { ty := some (true, 1), fd := [(0, false, 1)], pl := some ([Value.pointer none], [(0, 1)]), ze := some [Value.pointer none] }
def ti21 : TInfo := { ty := some (false, 1), ze := some [Value.int IntKind.i32 0], ik := some IntKind.i32 }
def ti22 : TInfo := { ty := some (false, 1), el := some (3, 1, 8, [Value.int IntKind.i64 0]), slT := true, ze := some [Value.slice none 0 0], co := some (Sc.i IntKind.i64) }
def ti23 : TInfo := { ty := some (true, 2), fd := [(0, false, 1), (1, false, 1)], pl := some ([Value.slice none 0 0, Value.slice none 0 0], [(0, 1), (1, 1)]), ze := some [Value.slice none 0 0, Value.slice none 0 0] }
def ti24 : TInfo := { ty := some (true, 2), fd := [(0, false, 1), (1, false, 1)], pl := some ([Value.slice none 0 0, Value.slice none 0 0], [(0, 1), (1, 1)]), ze := some [Value.slice none 0 0, Value.slice none 0 0] }
def ti25 : TInfo := { ty := some (false, 1), el := some (75, 3, 40, [Value.int IntKind.i64 0, Value.int IntKind.i64 0, Value.slice none 0 0]), slT := true, ze := some [Value.slice none 0 0], co := some ((Sc.i IntKind.i64).pr ((Sc.i IntKind.i64).pr ((Sc.i IntKind.i64).pr (Sc.i IntKind.i64)).sl)) }
def ti26 : TInfo := { ty := some (true, 3), fd := [(0, true, 2), (2, false, 1)], pl := some ([Value.slice none 0 0, Value.slice none 0 0, Value.slice none 0 0], [(0, 2), (2, 1)]), ze := some [Value.slice none 0 0, Value.slice none 0 0, Value.slice none 0 0] }
def ti27 : TInfo := { ty := some (true, 3), fd := [(0, true, 2), (2, false, 1)], pl := some ([Value.slice none 0 0, Value.slice none 0 0, Value.slice none 0 0], [(0, 2), (2, 1)]), ze := some [Value.slice none 0 0, Value.slice none 0 0, Value.slice none 0 0] }
def ti28 : TInfo := { ty := some (true, 2), fd := [(0, false, 1), (1, false, 1)], pl := some ([Value.int IntKind.i64 0, Value.int IntKind.i64 0], [(0, 1), (1, 1)]), ze := some [Value.int IntKind.i64 0, Value.int IntKind.i64 0], eq := some ((Sc.i IntKind.i64).pr (Sc.i IntKind.i64)) }
def ti29 : TInfo := { ty := some (true, 2), fd := [(0, false, 1), (1, false, 1)], pl := some ([Value.int IntKind.i64 0, Value.int IntKind.i64 0], [(0, 1), (1, 1)]), ze := some [Value.int IntKind.i64 0, Value.int IntKind.i64 0], eq := some ((Sc.i IntKind.i64).pr (Sc.i IntKind.i64)) }
def ti30 : TInfo := { ty := some (false, 1), ze := some [Value.nilFunc] }
def ti31 : TInfo := { ty := some (false, 1), ze := some [Value.nilFunc] }
def ti32 : TInfo := { ty := some (false, 1), ze := some [Value.nilFunc] }
def ti33 : TInfo := { ty := some (false, 1), el := some (22, 1, 24, [Value.slice none 0 0]), slT := true, ze := some [Value.slice none 0 0], co := some (Sc.i IntKind.i64).sl }
def ti34 : TInfo := { ty := some (true, 3), fd := [(0, false, 1), (1, false, 1), (2, false, 1)], pl := some ([Value.slice none 0 0, Value.slice none 0 0, Value.slice none 0 0], [(0, 1), (1, 1), (2, 1)]), ze := some [Value.slice none 0 0, Value.slice none 0 0, Value.slice none 0 0] }
def ti35 : TInfo := { ty := some (true, 3), fd := [(0, false, 1), (1, false, 1), (2, false, 1)], pl := some ([Value.slice none 0 0, Value.slice none 0 0, Value.slice none 0 0], [(0, 1), (1, 1), (2, 1)]), ze := some [Value.slice none 0 0, Value.slice none 0 0, Value.slice none 0 0] }
def ti36 : TInfo := { ty := some (false, 1), el := some (29, 2, 16, [Value.int IntKind.i64 0, Value.int IntKind.i64 0]), slT := true, ze := some [Value.slice none 0 0], co := some ((Sc.i IntKind.i64).pr (Sc.i IntKind.i64)) }
def ti37 : TInfo := { ty := some (false, 1), ze := some [Value.int IntKind.i64 0], ik := some IntKind.i64 }
def ti39 : TInfo := { ty := some (false, 1), ze := some [Value.nilFunc] }
def ti41 : TInfo := { ty := some (false, 1), ze := some [Value.nilFunc] }
def ti42 : TInfo := { ty := some (false, 1), ze := some [Value.nilFunc] }
def ti43 : TInfo := { ty := some (false, 1), ze := some [Value.nilFunc] }
def ti44 : TInfo := { ty := some (false, 1), ze := some [Value.nilFunc] }
def ti45 : TInfo := { ty := some (false, 1), ze := some [Value.nilFunc] }
def ti46 : TInfo := { ty := some (false, 1), ze := some [Value.nilFunc] }
def ti48 : TInfo := { ty := some (false, 1), ze := some [Value.nilFunc] }
def ti49 : TInfo := { ty := some (false, 1), ze := some [Value.nilFunc] }
def ti50 : TInfo := { ty := some (false, 1), ze := some [Value.nilFunc] }
def ti52 : TInfo := { ty := some (false, 1), ze := some [Value.nilFunc] }
def ti53 : TInfo := { ty := some (false, 1), ze := some [Value.nilFunc] }
def ti54 : TInfo := { ty := some (false, 1), ze := some [Value.nilFunc] }
def ti55 : TInfo := { ty := some (false, 1), el := some (58, 5, 80, [Value.bool false, Value.int IntKind.u8 0, Value.slice none 0 0, Value.slice none 0 0, Value.slice none 0 0]), slT := true, ze := some [Value.slice none 0 0], co := some (Sc.b.pr ((Sc.i IntKind.u8).pr ((Sc.i IntKind.i64).sl.pr ((Sc.i IntKind.i64).sl.pr (Sc.i IntKind.i64).sl.sl)))) }
def ti56 : TInfo := { ty := some (false, 1), el := some (35, 3, 72, [Value.slice none 0 0, Value.slice none 0 0, Value.slice none 0 0]), slT := true, ze := some [Value.slice none 0 0], co := some ((Sc.i IntKind.i64).sl.pr ((Sc.i IntKind.i64).sl.pr (Sc.i IntKind.i64).sl.sl)) }
def ti57 : TInfo := { ty := some (true, 5), fd := [(0, false, 1), (1, false, 1), (2, true, 3)], pl := some ([Value.bool false, Value.int IntKind.u8 0, Value.slice none 0 0, Value.slice none 0 0, Value.slice none 0 0], [(0, 1), (1, 1), (2, 3)]), ze := some [Value.bool false, Value.int IntKind.u8 0, Value.slice none 0 0, Value.slice none 0 0, Value.slice none 0 0] }
def ti58 : TInfo := { ty := some (true, 5), fd := [(0, false, 1), (1, false, 1), (2, true, 3)], pl := some ([Value.bool false, Value.int IntKind.u8 0, Value.slice none 0 0, Value.slice none 0 0, Value.slice none 0 0], [(0, 1), (1, 1), (2, 3)]), ze := some [Value.bool false, Value.int IntKind.u8 0, Value.slice none 0 0, Value.slice none 0 0, Value.slice none 0 0] }
def ti59 : TInfo := { ty := some (false, 1), ze := some [Value.nilFunc] }
def ti60 : TInfo := { ty := some (false, 1), ze := some [Value.nilFunc] }
def ti61 : TInfo := { ty := some (false, 1), ze := some [Value.nilFunc] }
def ti62 : TInfo := { ty := some (true, 2), fd := [(0, false, 1), (1, false, 1)], pl := some ([Value.int IntKind.i64 0, Value.slice none 0 0], [(0, 1), (1, 1)]), ze := some [Value.int IntKind.i64 0, Value.slice none 0 0] }
def ti63 : TInfo := { ty := some (true, 2), fd := [(0, false, 1), (1, false, 1)], pl := some ([Value.int IntKind.i64 0, Value.slice none 0 0], [(0, 1), (1, 1)]), ze := some [Value.int IntKind.i64 0, Value.slice none 0 0] }
def ti64 : TInfo := { ty := some (false, 1), el := some (108, 1, 4, [Value.int IntKind.u32 0]), slT := true, ze := some [Value.slice none 0 0], co := some (Sc.i IntKind.u32) }
def ti65 : TInfo := { ty := some (false, 1), el := some (114, 2, 16, [Value.int IntKind.i64 0, Value.int IntKind.i64 0]), slT := true, ze := some [Value.slice none 0 0], co := some ((Sc.i IntKind.i64).pr (Sc.i IntKind.i64)) }
def ti66 : TInfo := { ty := some (false, 1), ze := some [Value.nilFunc] }
def ti67 : TInfo := { ty := some (false, 1), ze := some [Value.nilFunc] }
def ti68 : TInfo := { ty := some (false, 1), ze := some [Value.nilFunc] }
def ti69 : TInfo := { ty := some (false, 1), ze := some [Value.nilFunc] }
def ti70 : TInfo := { ty := some (false, 1), el := some (4, 1, 1, [Value.bool false]), slT := true, ze := some [Value.slice none 0 0], co := some Sc.b }
def ti72 : TInfo := { ty := some (false, 1), ze := some [Value.nilFunc] }
def ti73 : TInfo := { ty := some (false, 1), ze := some [Value.nilFunc] }
def ti74 : TInfo := { ty := some (true, 3), fd := [(0, false, 1), (1, false, 1), (2, false, 1)], pl := some ([Value.int IntKind.i64 0, Value.int IntKind.i64 0, Value.slice none 0 0], [(0, 1), (1, 1), (2, 1)]), ze := some [Value.int IntKind.i64 0, Value.int IntKind.i64 0, Value.slice none 0 0] }
def ti75 : TInfo := { ty := some (true, 3), fd := [(0, false, 1), (1, false, 1), (2, false, 1)], pl := some ([Value.int IntKind.i64 0, Value.int IntKind.i64 0, Value.slice none 0 0], [(0, 1), (1, 1), (2, 1)]), ze := some [Value.int IntKind.i64 0, Value.int IntKind.i64 0, Value.slice none 0 0] }
def ti76 : TInfo := { ty := some (false, 1), ze := some [Value.nilFunc] }
def ti77 : TInfo := { ty := some (false, 1), ze := some [Value.pointer none] }
def ti78 : TInfo := { ty := some (false, 1), ze := some [Value.map none], mp := some (TypeDesc.tuple { toList := [] }, Value.int IntKind.i64 0), kv := some ((Sc.i IntKind.i64).pr (Sc.i IntKind.i64), Sc.i IntKind.i64) }
def ti79 : TInfo := { ty := some (true, 5), fd := [(0, true, 3), (3, false, 1), (4, false, 1)], pl := some ([Value.slice none 0 0, Value.slice none 0 0, Value.slice none 0 0, Value.slice none 0 0, Value.map none], [(0, 3), (3, 1), (4, 1)]), ze := some [Value.slice none 0 0, Value.slice none 0 0, Value.slice none 0 0, Value.slice none 0 0, Value.map none] }
def ti80 : TInfo := { ty := some (true, 5), fd := [(0, true, 3), (3, false, 1), (4, false, 1)], pl := some ([Value.slice none 0 0, Value.slice none 0 0, Value.slice none 0 0, Value.slice none 0 0, Value.map none], [(0, 3), (3, 1), (4, 1)]), ze := some [Value.slice none 0 0, Value.slice none 0 0, Value.slice none 0 0, Value.slice none 0 0, Value.map none] }
def ti81 : TInfo := { ty := some (false, 1), ze := some [Value.nilFunc] }
def ti83 : TInfo := { ty := some (false, 1), ze := some [Value.nilFunc] }
def ti84 : TInfo := { ty := some (false, 1), ze := some [Value.nilFunc] }
def ti85 : TInfo := { ty := some (false, 1), ze := some [Value.nilFunc] }
def ti86 : TInfo := { ty := some (false, 1), ze := some [Value.nilFunc] }
def ti87 : TInfo := { ty := some (false, 1), ze := some [Value.nilFunc] }
def ti88 : TInfo := { ty := some (false, 1), ze := some [Value.nilFunc] }
def ti89 : TInfo := { ty := some (false, 1), ze := some [Value.nilFunc] }
def ti91 : TInfo := { ty := some (false, 1), ze := some [Value.nilFunc] }
def ti92 : TInfo := { ty := some (false, 1), ze := some [Value.nilFunc] }
def ti93 : TInfo := { ty := some (false, 1), ze := some [Value.nilFunc] }
def ti94 : TInfo := { ty := some (false, 1), ze := some [Value.nilFunc] }
def ti95 : TInfo := { ty := some (false, 1), ze := some [Value.nilFunc] }
def ti96 : TInfo := { ty := some (false, 1), ze := some [Value.nilFunc] }
def ti97 : TInfo := { ty := some (false, 1), ze := some [Value.nilFunc] }
def ti98 : TInfo := { ty := some (false, 1), ze := some [Value.nilFunc] }
def ti100 : TInfo := { ty := some (false, 1), ze := some [Value.nilFunc] }
def ti102 : TInfo := { ty := some (false, 1), ze := some [Value.nilFunc] }
def ti103 : TInfo := { ty := some (false, 1), ze := some [Value.nilFunc] }
def ti104 : TInfo := { ty := some (false, 1), ze := some [Value.nilFunc] }
def ti105 : TInfo := { ty := some (false, 1), ze := some [Value.nilFunc] }
def ti106 : TInfo := { ty := some (false, 1), ze := some [Value.nilFunc] }
def ti107 : TInfo := { ty := some (false, 1), ze := some [Value.nilFunc] }
def ti108 : TInfo := { ty := some (false, 1), ze := some [Value.int IntKind.u32 0], ik := some IntKind.u32 }
def ti109 : TInfo := { ty := some (false, 1), ze := some [Value.nilFunc] }
def ti110 : TInfo := { ty := some (false, 1), ze := some [Value.nilFunc] }
def ti112 : TInfo := { ty := some (false, 1), ze := some [Value.nilFunc] }
def ti113 : TInfo := { ty := some (true, 2), fd := [(0, false, 1), (1, false, 1)], pl := some ([Value.int IntKind.i64 0, Value.int IntKind.i64 0], [(0, 1), (1, 1)]), ze := some [Value.int IntKind.i64 0, Value.int IntKind.i64 0], eq := some ((Sc.i IntKind.i64).pr (Sc.i IntKind.i64)) }
def ti114 : TInfo := { ty := some (true, 2), fd := [(0, false, 1), (1, false, 1)], pl := some ([Value.int IntKind.i64 0, Value.int IntKind.i64 0], [(0, 1), (1, 1)]), ze := some [Value.int IntKind.i64 0, Value.int IntKind.i64 0], eq := some ((Sc.i IntKind.i64).pr (Sc.i IntKind.i64)) }
def ti116 : TInfo := { ty := some (false, 1), ze := some [Value.nilFunc] }
def ti117 : TInfo := { ty := some (false, 1), ze := some [Value.nilFunc] }
def ti118 : TInfo := { ty := some (false, 1), ze := some [Value.nilFunc] }
def ti119 : TInfo := { ty := some (false, 1), ze := some [Value.nilFunc] }
def ti120 : TInfo := { ty := some (false, 1), ze := some [Value.nilFunc] }
def ti121 : TInfo := { ty := some (false, 1), ze := some [Value.map none], mp := some (TypeDesc.int IntKind.i64, Value.int IntKind.i64 0), kv := some (Sc.i IntKind.i64, Sc.i IntKind.i64) }
def ti122 : TInfo := { ty := some (false, 1), ze := some [Value.nilFunc] }
def ti123 : TInfo := { ty := some (false, 1), ze := some [Value.nilFunc] }
def ti125 : TInfo := { ty := some (false, 1), ze := some [Value.nilFunc] }
def ti126 : TInfo := { ty := some (false, 1), ze := some [Value.nilFunc] }
def ti127 : TInfo := { ty := some (false, 1), ze := some [Value.nilFunc] }
def ti128 : TInfo := { ty := some (false, 1), ze := some [Value.nilFunc] }
def ti130 : TInfo := { ty := some (false, 1), ze := some [Value.nilFunc] }
def ti131 : TInfo := { ty := some (false, 1), ze := some [Value.nilFunc] }
def ti132 : TInfo := { ty := some (false, 1), ze := some [Value.nilFunc] }
def ti133 : TInfo := { ty := some (false, 1), ze := some [Value.nilFunc] }
def ti134 : TInfo := { ty := some (false, 1), ze := some [Value.nilFunc] }
def ti135 : TInfo := { ty := some (false, 1), ze := some [Value.nilFunc] }
def ti136 : TInfo := { ty := some (false, 1), ze := some [Value.nilFunc] }
def ti137 : TInfo := { ty := some (true, 8), ar := some (8, 3, 1), pl := some ([Value.int IntKind.i64 0, Value.int IntKind.i64 0, Value.int IntKind.i64 0, Value.int IntKind.i64 0, Value.int IntKind.i64 0, Value.int IntKind.i64 0, Value.int IntKind.i64 0, Value.int IntKind.i64 0], [(0, 1), (1, 1), (2, 1), (3, 1), (4, 1), (5, 1), (6, 1), (7, 1)]), ze := some [Value.int IntKind.i64 0, Value.int IntKind.i64 0, Value.int IntKind.i64 0, Value.int IntKind.i64 0, Value.int IntKind.i64 0, Value.int IntKind.i64 0, Value.int IntKind.i64 0, Value.int IntKind.i64 0], co := some (Sc.i IntKind.i64) }
def ti138 : TInfo := { ty := some (false, 1), ze := some [Value.nilFunc] }
def ti139 : TInfo := { ty := some (false, 1), ze := some [Value.pointer none] }
def ti140 : TInfo := { ty := some (true, 3), fd := [(0, false, 1), (1, false, 1), (2, false, 1)], pl := some ([Value.slice none 0 0, Value.map none, Value.map none], [(0, 1), (1, 1), (2, 1)]), ze := some [Value.slice none 0 0, Value.map none, Value.map none] }
def ti141 : TInfo := { ty := some (true, 3), fd := [(0, false, 1), (1, false, 1), (2, false, 1)], pl := some ([Value.slice none 0 0, Value.map none, Value.map none], [(0, 1), (1, 1), (2, 1)]), ze := some [Value.slice none 0 0, Value.map none, Value.map none] }
def ti142 : TInfo := { ty := some (false, 1), ze := some [Value.int IntKind.u64 0], ik := some IntKind.u64 }
def ti143 : TInfo := { ty := some (false, 1), ze := some [Value.nilFunc] }
def ti144 : TInfo := { ty := some (false, 1), ze := some [Value.nilFunc] }
def ti147 : TInfo := { ty := some (true, 0), ar := some (0, 16, 1), pl := some ([], []), ze := some [] }
def ti148 : TInfo := { ty := some (true, 0), fd := [(0, true, 0)], pl := some ([], [(0, 0)]), ze := some [] }
def ti149 : TInfo := { ty := some (true, 0), fd := [(0, true, 0)], pl := some ([], [(0, 0)]), ze := some [] }
def ti150 : TInfo := { ty := some (false, 1), ze := some [Value.nilFunc] }
def ti151 : TInfo := { ty := some (false, 1), ze := some [Value.int IntKind.u8 0], ik := some IntKind.u8 }
def ti152 : TInfo := { ty := some (false, 1), ze := some [Value.int IntKind.u8 0], ik := some IntKind.u8 }
def ti153 : TInfo := { ty := some (false, 1), ze := some [Value.nilFunc] }
def ti154 : TInfo := { ty := some (false, 1), ze := some [Value.pointer none] }
def ti155 : TInfo := { ty := some (false, 1), ze := some [Value.int IntKind.i32 0], ik := some IntKind.i32 }
def ti156 : TInfo := { ty := some (false, 1), ze := some [Value.int IntKind.i32 0], ik := some IntKind.i32 }
def ti157 : TInfo := { ty := some (true, 11), fd := [(0, false, 1), (1, false, 1), (2, false, 1), (3, false, 1), (4, false, 1), (5, false, 1), (6, false, 1), (7, false, 1), (8, false, 1), (9, false, 1), (10, false, 1)], pl := some ([Value.int IntKind.u64 0, Value.int IntKind.u64 0, Value.int IntKind.u32 0, Value.int IntKind.u8 0, Value.int IntKind.u8 0, Value.int IntKind.u8 0, Value.int IntKind.u8 0, Value.nilFunc, Value.pointer none, Value.int IntKind.i32 0, Value.int IntKind.i32 0], [(0, 1), (1, 1), (2, 1), (3, 1), (4, 1), (5, 1), (6, 1), (7, 1), (8, 1), (9, 1), (10, 1)]), ze := some [Value.int IntKind.u64 0, Value.int IntKind.u64 0, Value.int IntKind.u32 0, Value.int IntKind.u8 0, Value.int IntKind.u8 0, Value.int IntKind.u8 0, Value.int IntKind.u8 0, Value.nilFunc, Value.pointer none, Value.int IntKind.i32 0, Value.int IntKind.i32 0] }
def ti158 : TInfo := { ty := some (true, 11), fd := [(0, false, 1), (1, false, 1), (2, false, 1), (3, false, 1), (4, false, 1), (5, false, 1), (6, false, 1), (7, false, 1), (8, false, 1), (9, false, 1), (10, false, 1)], pl := some ([Value.int IntKind.u64 0, Value.int IntKind.u64 0, Value.int IntKind.u32 0, Value.int IntKind.u8 0, Value.int IntKind.u8 0, Value.int IntKind.u8 0, Value.int IntKind.u8 0, Value.nilFunc, Value.pointer none, Value.int IntKind.i32 0, Value.int IntKind.i32 0], [(0, 1), (1, 1), (2, 1), (3, 1), (4, 1), (5, 1), (6, 1), (7, 1), (8, 1), (9, 1), (10, 1)]), ze := some [Value.int IntKind.u64 0, Value.int IntKind.u64 0, Value.int IntKind.u32 0, Value.int IntKind.u8 0, Value.int IntKind.u8 0, Value.int IntKind.u8 0, Value.int IntKind.u8 0, Value.nilFunc, Value.pointer none, Value.int IntKind.i32 0, Value.int IntKind.i32 0] }
def ti159 : TInfo := { ty := some (false, 1), ze := some [Value.pointer none] }
def tiL : List (TypeId × TInfo) := [(1, ti1), (2, ti2), (3, ti3), (4, ti4), (5, ti5), (6, ti6), (7, ti7), (8, ti8), (12, ti12), (15, ti15), (16, ti16), (17, ti17), (18, ti18), (19, ti19), (21, ti21), (22, ti22), (23, ti23), (24, ti24), (25, ti25), (26, ti26), (27, ti27), (28, ti28), (29, ti29), (30, ti30), (31, ti31), (32, ti32), (33, ti33), (34, ti34), (35, ti35), (36, ti36), (37, ti37), (39, ti39), (41, ti41), (42, ti42), (43, ti43), (44, ti44), (45, ti45), (46, ti46), (48, ti48), (49, ti49), (50, ti50), (52, ti52), (53, ti53), (54, ti54), (55, ti55), (56, ti56), (57, ti57), (58, ti58), (59, ti59), (60, ti60), (61, ti61), (62, ti62), (63, ti63), (64, ti64), (65, ti65), (66, ti66), (67, ti67), (68, ti68), (69, ti69), (70, ti70), (72, ti72), (73, ti73), (74, ti74), (75, ti75), (76, ti76), (77, ti77), (78, ti78), (79, ti79), (80, ti80), (81, ti81), (83, ti83), (84, ti84), (85, ti85), (86, ti86), (87, ti87), (88, ti88), (89, ti89), (91, ti91), (92, ti92), (93, ti93), (94, ti94), (95, ti95), (96, ti96), (97, ti97), (98, ti98), (100, ti100), (102, ti102), (103, ti103), (104, ti104), (105, ti105), (106, ti106), (107, ti107), (108, ti108), (109, ti109), (110, ti110), (112, ti112), (113, ti113), (114, ti114), (116, ti116), (117, ti117), (118, ti118), (119, ti119), (120, ti120), (121, ti121), (122, ti122), (123, ti123), (125, ti125), (126, ti126), (127, ti127), (128, ti128), (130, ti130), (131, ti131), (132, ti132), (133, ti133), (134, ti134), (135, ti135), (136, ti136), (137, ti137), (138, ti138), (139, ti139), (140, ti140), (141, ti141), (142, ti142), (143, ti143), (144, ti144), (147, ti147), (148, ti148), (149, ti149), (150, ti150), (151, ti151), (152, ti152), (153, ti153), (154, ti154), (155, ti155), (156, ti156), (157, ti157), (158, ti158), (159, ti159)]
theorem tiok1 : TGood Try.prog 1 ti1 := ⟨of_kr (by kernel_rfl), of_kr (by kernel_rfl), of_kb (by kernel_rfl), of_kbo (by kernel_rfl), of_kr (by kernel_rfl), of_kfd (by kernel_rfl), of_kpl (by kernel_rfl), of_kr (by kernel_rfl), of_kr (by kernel_rfl), of_kik (by kernel_rfl), of_keq (by kernel_rfl)⟩
theorem tiok2 : TGood Try.prog 2 ti2 := ⟨of_kr (by kernel_rfl), of_kr (by kernel_rfl), of_kb (by kernel_rfl), of_kbo (by kernel_rfl), of_kr (by kernel_rfl), of_kfd (by kernel_rfl), of_kpl (by kernel_rfl), of_kr (by kernel_rfl), of_kr (by kernel_rfl), of_kik (by kernel_rfl), of_keq (by kernel_rfl)⟩
theorem tiok3 : TGood Try.prog 3 ti3 := ⟨of_kr (by kernel_rfl), of_kr (by kernel_rfl), of_kb (by kernel_rfl), of_kbo (by kernel_rfl), of_kr (by kernel_rfl), of_kfd (by kernel_rfl), of_kpl (by kernel_rfl), of_kr (by kernel_rfl), of_kr (by kernel_rfl), of_kik (by kernel_rfl), of_keq (by kernel_rfl)⟩
theorem tiok4 : TGood Try.prog 4 ti4 := ⟨of_kr (by kernel_rfl), of_kr (by kernel_rfl), of_kb (by kernel_rfl), of_kbo (by kernel_rfl), of_kr (by kernel_rfl), of_kfd (by kernel_rfl), of_kpl (by kernel_rfl), of_kr (by kernel_rfl), of_kr (by kernel_rfl), of_kik (by kernel_rfl), of_keq (by kernel_rfl)⟩
theorem tiok5 : TGood Try.prog 5 ti5 := ⟨of_kr (by kernel_rfl), of_kr (by kernel_rfl), of_kb (by kernel_rfl), of_kbo (by kernel_rfl), of_kr (by kernel_rfl), of_kfd (by kernel_rfl), of_kpl (by kernel_rfl), of_kr (by kernel_rfl), of_kr (by kernel_rfl), of_kik (by kernel_rfl), of_keq (by kernel_rfl)⟩
theorem tiok6 : TGood Try.prog 6 ti6 := ⟨of_kr (by kernel_rfl), of_kr (by kernel_rfl), of_kb (by kernel_rfl), of_kbo (by kernel_rfl), of_kr (by kernel_rfl), of_kfd (by kernel_rfl), of_kpl (by kernel_rfl), of_kr (by kernel_rfl), of_kr (by kernel_rfl), of_kik (by kernel_rfl), of_keq (by kernel_rfl)⟩
theorem tiok7 : TGood Try.prog 7 ti7 := ⟨of_kr (by kernel_rfl), of_kr (by kernel_rfl), of_kb (by kernel_rfl), of_kbo (by kernel_rfl), of_kr (by kernel_rfl), of_kfd (by kernel_rfl), of_kpl (by kernel_rfl), of_kr (by kernel_rfl), of_kr (by kernel_rfl), of_kik (by kernel_rfl), of_keq (by kernel_rfl)⟩
theorem tiok8 : TGood Try.prog 8 ti8 := ⟨of_kr (by kernel_rfl), of_kr (by kernel_rfl), of_kb (by kernel_rfl), of_kbo (by kernel_rfl), of_kr (by kernel_rfl), of_kfd (by kernel_rfl), of_kpl (by kernel_rfl), of_kr (by kernel_rfl), of_kr (by kernel_rfl), of_kik (by kernel_rfl), of_keq (by kernel_rfl)⟩
theorem tiok12 : TGood Try.prog 12 ti12 := ⟨of_kr (by kernel_rfl), of_kr (by kernel_rfl), of_kb (by kernel_rfl), of_kbo (by kernel_rfl), of_kr (by kernel_rfl), of_kfd (by kernel_rfl), of_kpl (by kernel_rfl), of_kr (by kernel_rfl), of_kr (by kernel_rfl), of_kik (by kernel_rfl), of_keq (by kernel_rfl)⟩
theorem tiok15 : TGood Try.prog 15 ti15 := ⟨of_kr (by kernel_rfl), of_kr (by kernel_rfl), of_kb (by kernel_rfl), of_kbo (by kernel_rfl), of_kr (by kernel_rfl), of_kfd (by kernel_rfl), of_kpl (by kernel_rfl), of_kr (by kernel_rfl), of_kr (by kernel_rfl), of_kik (by kernel_rfl), of_keq (by kernel_rfl)⟩
theorem tiok16 : TGood Try.prog 16 ti16 := ⟨of_kr (by kernel_rfl), of_kr (by kernel_rfl), of_kb (by kernel_rfl), of_kbo (by kernel_rfl), of_kr (by kernel_rfl), of_kfd (by kernel_rfl), of_kpl (by kernel_rfl), of_kr (by kernel_rfl), of_kr (by kernel_rfl), of_kik (by kernel_rfl), of_keq (by kernel_rfl)⟩
theorem tiok17 : TGood Try.prog 17 ti17 := ⟨of_kr (by kernel_rfl), of_kr (by kernel_rfl), of_kb (by kernel_rfl), of_kbo (by kernel_rfl), of_kr (by kernel_rfl), of_kfd (by kernel_rfl), of_kpl (by kernel_rfl), of_kr (by kernel_rfl), of_kr (by kernel_rfl), of_kik (by kernel_rfl), of_keq (by kernel_rfl)⟩
theorem tiok18 : TGood Try.prog 18 ti18 := ⟨of_kr (by kernel_rfl), of_kr (by kernel_rfl), of_kb (by kernel_rfl), of_kbo (by kernel_rfl), of_kr (by kernel_rfl), of_kfd (by kernel_rfl), of_kpl (by kernel_rfl), of_kr (by kernel_rfl), of_kr (by kernel_rfl), of_kik (by kernel_rfl), of_keq (by kernel_rfl)⟩
theorem tiok19 : TGood Try.prog 19 ti19 := ⟨of_kr (by kernel_rfl), of_kr (by kernel_rfl), of_kb (by kernel_rfl), of_kbo (by kernel_rfl), of_kr (by kernel_rfl), of_kfd (by kernel_rfl), of_kpl (by kernel_rfl), of_kr (by kernel_rfl), of_kr (by kernel_rfl), of_kik (by kernel_rfl), of_keq (by kernel_rfl)⟩
theorem tiok21 : TGood Try.prog 21 ti21 := ⟨of_kr (by kernel_rfl), of_kr (by kernel_rfl), of_kb (by kernel_rfl), of_kbo (by kernel_rfl), of_kr (by kernel_rfl), of_kfd (by kernel_rfl), of_kpl (by kernel_rfl), of_kr (by kernel_rfl), of_kr (by kernel_rfl), of_kik (by kernel_rfl), of_keq (by kernel_rfl)⟩
theorem tiok22 : TGood Try.prog 22 ti22 := ⟨of_kr (by kernel_rfl), of_kr (by kernel_rfl), of_kb (by kernel_rfl), of_kbo (by kernel_rfl), of_kr (by kernel_rfl), of_kfd (by kernel_rfl), of_kpl (by kernel_rfl), of_kr (by kernel_rfl), of_kr (by kernel_rfl), of_kik (by kernel_rfl), of_keq (by kernel_rfl)⟩
theorem tiok23 : TGood Try.prog 23 ti23 := ⟨of_kr (by kernel_rfl), of_kr (by kernel_rfl), of_kb (by kernel_rfl), of_kbo (by kernel_rfl), of_kr (by kernel_rfl), of_kfd (by kernel_rfl), of_kpl (by kernel_rfl), of_kr (by kernel_rfl), of_kr (by kernel_rfl), of_kik (by kernel_rfl), of_keq (by kernel_rfl)⟩
theorem tiok24 : TGood Try.prog 24 ti24 := ⟨of_kr (by kernel_rfl), of_kr (by kernel_rfl), of_kb (by kernel_rfl), of_kbo (by kernel_rfl), of_kr (by kernel_rfl), of_kfd (by kernel_rfl), of_kpl (by kernel_rfl), of_kr (by kernel_rfl), of_kr (by kernel_rfl), of_kik (by kernel_rfl), of_keq (by kernel_rfl)⟩
theorem tiok25 : TGood Try.prog 25 ti25 := ⟨of_kr (by kernel_rfl), of_kr (by kernel_rfl), of_kb (by kernel_rfl), of_kbo (by kernel_rfl), of_kr (by kernel_rfl), of_kfd (by kernel_rfl), of_kpl (by kernel_rfl), of_kr (by kernel_rfl), of_kr (by kernel_rfl), of_kik (by kernel_rfl), of_keq (by kernel_rfl)⟩
theorem tiok26 : TGood Try.prog 26 ti26 := ⟨of_kr (by kernel_rfl), of_kr (by kernel_rfl), of_kb (by kernel_rfl), of_kbo (by kernel_rfl), of_kr (by kernel_rfl), of_kfd (by kernel_rfl), of_kpl (by kernel_rfl), of_kr (by kernel_rfl), of_kr (by kernel_rfl), of_kik (by kernel_rfl), of_keq (by kernel_rfl)⟩
theorem tiok27 : TGood Try.prog 27 ti27 := ⟨of_kr (by kernel_rfl), of_kr (by kernel_rfl), of_kb (by kernel_rfl), of_kbo (by kernel_rfl), of_kr (by kernel_rfl), of_kfd (by kernel_rfl), of_kpl (by kernel_rfl), of_kr (by kernel_rfl), of_kr (by kernel_rfl), of_kik (by kernel_rfl), of_keq (by kernel_rfl)⟩
theorem tiok28 : TGood Try.prog 28 ti28 := ⟨of_kr (by kernel_rfl), of_kr (by kernel_rfl), of_kb (by kernel_rfl), of_kbo (by kernel_rfl), of_kr (by kernel_rfl), of_kfd (by kernel_rfl), of_kpl (by kernel_rfl), of_kr (by kernel_rfl), of_kr (by kernel_rfl), of_kik (by kernel_rfl), of_keq (by kernel_rfl)⟩
theorem tiok29 : TGood Try.prog 29 ti29 := ⟨of_kr (by kernel_rfl), of_kr (by kernel_rfl), of_kb (by kernel_rfl), of_kbo (by kernel_rfl), of_kr (by kernel_rfl), of_kfd (by kernel_rfl), of_kpl (by kernel_rfl), of_kr (by kernel_rfl), of_kr (by kernel_rfl), of_kik (by kernel_rfl), of_keq (by kernel_rfl)⟩
theorem tiok30 : TGood Try.prog 30 ti30 := ⟨of_kr (by kernel_rfl), of_kr (by kernel_rfl), of_kb (by kernel_rfl), of_kbo (by kernel_rfl), of_kr (by kernel_rfl), of_kfd (by kernel_rfl), of_kpl (by kernel_rfl), of_kr (by kernel_rfl), of_kr (by kernel_rfl), of_kik (by kernel_rfl), of_keq (by kernel_rfl)⟩
theorem tiok31 : TGood Try.prog 31 ti31 := ⟨of_kr (by kernel_rfl), of_kr (by kernel_rfl), of_kb (by kernel_rfl), of_kbo (by kernel_rfl), of_kr (by kernel_rfl), of_kfd (by kernel_rfl), of_kpl (by kernel_rfl), of_kr (by kernel_rfl), of_kr (by kernel_rfl), of_kik (by kernel_rfl), of_keq (by kernel_rfl)⟩
theorem tiok32 : TGood Try.prog 32 ti32 := ⟨of_kr (by kernel_rfl), of_kr (by kernel_rfl), of_kb (by kernel_rfl), of_kbo (by kernel_rfl), of_kr (by kernel_rfl), of_kfd (by kernel_rfl), of_kpl (by kernel_rfl), of_kr (by kernel_rfl), of_kr (by kernel_rfl), of_kik (by kernel_rfl), of_keq (by kernel_rfl)⟩
theorem tiok33 : TGood Try.prog 33 ti33 := ⟨of_kr (by kernel_rfl), of_kr (by kernel_rfl), of_kb (by kernel_rfl), of_kbo (by kernel_rfl), of_kr (by kernel_rfl), of_kfd (by kernel_rfl), of_kpl (by kernel_rfl), of_kr (by kernel_rfl), of_kr (by kernel_rfl), of_kik (by kernel_rfl), of_keq (by kernel_rfl)⟩
theorem tiok34 : TGood Try.prog 34 ti34 := ⟨of_kr (by kernel_rfl), of_kr (by kernel_rfl), of_kb (by kernel_rfl), of_kbo (by kernel_rfl), of_kr (by kernel_rfl), of_kfd (by kernel_rfl), of_kpl (by kernel_rfl), of_kr (by kernel_rfl), of_kr (by kernel_rfl), of_kik (by kernel_rfl), of_keq (by kernel_rfl)⟩
theorem tiok35 : TGood Try.prog 35 ti35 := ⟨of_kr (by kernel_rfl), of_kr (by kernel_rfl), of_kb (by kernel_rfl), of_kbo (by kernel_rfl), of_kr (by kernel_rfl), of_kfd (by kernel_rfl), of_kpl (by kernel_rfl), of_kr (by kernel_rfl), of_kr (by kernel_rfl), of_kik (by kernel_rfl), of_keq (by kernel_rfl)⟩
theorem tiok36 : TGood Try.prog 36 ti36 := ⟨of_kr (by kernel_rfl), of_kr (by kernel_rfl), of_kb (by kernel_rfl), of_kbo (by kernel_rfl), of_kr (by kernel_rfl), of_kfd (by kernel_rfl), of_kpl (by kernel_rfl), of_kr (by kernel_rfl), of_kr (by kernel_rfl), of_kik (by kernel_rfl), of_keq (by kernel_rfl)⟩
theorem tiok37 : TGood Try.prog 37 ti37 := ⟨of_kr (by kernel_rfl), of_kr (by kernel_rfl), of_kb (by kernel_rfl), of_kbo (by kernel_rfl), of_kr (by kernel_rfl), of_kfd (by kernel_rfl), of_kpl (by kernel_rfl), of_kr (by kernel_rfl), of_kr (by kernel_rfl), of_kik (by kernel_rfl), of_keq (by kernel_rfl)⟩
theorem tiok39 : TGood Try.prog 39 ti39 := ⟨of_kr (by kernel_rfl), of_kr (by kernel_rfl), of_kb (by kernel_rfl), of_kbo (by kernel_rfl), of_kr (by kernel_rfl), of_kfd (by kernel_rfl), of_kpl (by kernel_rfl), of_kr (by kernel_rfl), of_kr (by kernel_rfl), of_kik (by kernel_rfl), of_keq (by kernel_rfl)⟩
theorem tiok41 : TGood Try.prog 41 ti41 := ⟨of_kr (by kernel_rfl), of_kr (by kernel_rfl), of_kb (by kernel_rfl), of_kbo (by kernel_rfl), of_kr (by kernel_rfl), of_kfd (by kernel_rfl), of_kpl (by kernel_rfl), of_kr (by kernel_rfl), of_kr (by kernel_rfl), of_kik (by kernel_rfl), of_keq (by kernel_rfl)⟩
theorem tiok42 : TGood Try.prog 42 ti42 := ⟨of_kr (by kernel_rfl), of_kr (by kernel_rfl), of_kb (by kernel_rfl), of_kbo (by kernel_rfl), of_kr (by kernel_rfl), of_kfd (by kernel_rfl), of_kpl (by kernel_rfl), of_kr (by kernel_rfl), of_kr (by kernel_rfl), of_kik (by kernel_rfl), of_keq (by kernel_rfl)⟩
theorem tiok43 : TGood Try.prog 43 ti43 := ⟨of_kr (by kernel_rfl), of_kr (by kernel_rfl), of_kb (by kernel_rfl), of_kbo (by kernel_rfl), of_kr (by kernel_rfl), of_kfd (by kernel_rfl), of_kpl (by kernel_rfl), of_kr (by kernel_rfl), of_kr (by kernel_rfl), of_kik (by kernel_rfl), of_keq (by kernel_rfl)⟩
theorem tiok44 : TGood Try.prog 44 ti44 := ⟨of_kr (by kernel_rfl), of_kr (by kernel_rfl), of_kb (by kernel_rfl), of_kbo (by kernel_rfl), of_kr (by kernel_rfl), of_kfd (by kernel_rfl), of_kpl (by kernel_rfl), of_kr (by kernel_rfl), of_kr (by kernel_rfl), of_kik (by kernel_rfl), of_keq (by kernel_rfl)⟩
theorem tiok45 : TGood Try.prog 45 ti45 := ⟨of_kr (by kernel_rfl), of_kr (by kernel_rfl), of_kb (by kernel_rfl), of_kbo (by kernel_rfl), of_kr (by kernel_rfl), of_kfd (by kernel_rfl), of_kpl (by kernel_rfl), of_kr (by kernel_rfl), of_kr (by kernel_rfl), of_kik (by kernel_rfl), of_keq (by kernel_rfl)⟩
theorem tiok46 : TGood Try.prog 46 ti46 := ⟨of_kr (by kernel_rfl), of_kr (by kernel_rfl), of_kb (by kernel_rfl), of_kbo (by kernel_rfl), of_kr (by kernel_rfl), of_kfd (by kernel_rfl), of_kpl (by kernel_rfl), of_kr (by kernel_rfl), of_kr (by kernel_rfl), of_kik (by kernel_rfl), of_keq (by kernel_rfl)⟩
theorem tiok48 : TGood Try.prog 48 ti48 := ⟨of_kr (by kernel_rfl), of_kr (by kernel_rfl), of_kb (by kernel_rfl), of_kbo (by kernel_rfl), of_kr (by kernel_rfl), of_kfd (by kernel_rfl), of_kpl (by kernel_rfl), of_kr (by kernel_rfl), of_kr (by kernel_rfl), of_kik (by kernel_rfl), of_keq (by kernel_rfl)⟩
theorem tiok49 : TGood Try.prog 49 ti49 := ⟨of_kr (by kernel_rfl), of_kr (by kernel_rfl), of_kb (by kernel_rfl), of_kbo (by kernel_rfl), of_kr (by kernel_rfl), of_kfd (by kernel_rfl), of_kpl (by kernel_rfl), of_kr (by kernel_rfl), of_kr (by kernel_rfl), of_kik (by kernel_rfl), of_keq (by kernel_rfl)⟩
theorem tiok50 : TGood Try.prog 50 ti50 := ⟨of_kr (by kernel_rfl), of_kr (by kernel_rfl), of_kb (by kernel_rfl), of_kbo (by kernel_rfl), of_kr (by kernel_rfl), of_kfd (by kernel_rfl), of_kpl (by kernel_rfl), of_kr (by kernel_rfl), of_kr (by kernel_rfl), of_kik (by kernel_rfl), of_keq (by kernel_rfl)⟩
theorem tiok52 : TGood Try.prog 52 ti52 := ⟨of_kr (by kernel_rfl), of_kr (by kernel_rfl), of_kb (by kernel_rfl), of_kbo (by kernel_rfl), of_kr (by kernel_rfl), of_kfd (by kernel_rfl), of_kpl (by kernel_rfl), of_kr (by kernel_rfl), of_kr (by kernel_rfl), of_kik (by kernel_rfl), of_keq (by kernel_rfl)⟩
theorem tiok53 : TGood Try.prog 53 ti53 := ⟨of_kr (by kernel_rfl), of_kr (by kernel_rfl), of_kb (by kernel_rfl), of_kbo (by kernel_rfl), of_kr (by kernel_rfl), of_kfd (by kernel_rfl), of_kpl (by kernel_rfl), of_kr (by kernel_rfl), of_kr (by kernel_rfl), of_kik (by kernel_rfl), of_keq (by kernel_rfl)⟩
theorem tiok54 : TGood Try.prog 54 ti54 := ⟨of_kr (by kernel_rfl), of_kr (by kernel_rfl), of_kb (by kernel_rfl), of_kbo (by kernel_rfl), of_kr (by kernel_rfl), of_kfd (by kernel_rfl), of_kpl (by kernel_rfl), of_kr (by kernel_rfl), of_kr (by kernel_rfl), of_kik (by kernel_rfl), of_keq (by kernel_rfl)⟩
theorem tiok55 : TGood Try.prog 55 ti55 := ⟨of_kr (by kernel_rfl), of_kr (by kernel_rfl), of_kb (by kernel_rfl), of_kbo (by kernel_rfl), of_kr (by kernel_rfl), of_kfd (by kernel_rfl), of_kpl (by kernel_rfl), of_kr (by kernel_rfl), of_kr (by kernel_rfl), of_kik (by kernel_rfl), of_keq (by kernel_rfl)⟩
theorem tiok56 : TGood Try.prog 56 ti56 := ⟨of_kr (by kernel_rfl), of_kr (by kernel_rfl), of_kb (by kernel_rfl), of_kbo (by kernel_rfl), of_kr (by kernel_rfl), of_kfd (by kernel_rfl), of_kpl (by kernel_rfl), of_kr (by kernel_rfl), of_kr (by kernel_rfl), of_kik (by kernel_rfl), of_keq (by kernel_rfl)⟩
theorem tiok57 : TGood Try.prog 57 ti57 := ⟨of_kr (by kernel_rfl), of_kr (by kernel_rfl), of_kb (by kernel_rfl), of_kbo (by kernel_rfl), of_kr (by kernel_rfl), of_kfd (by kernel_rfl), of_kpl (by kernel_rfl), of_kr (by kernel_rfl), of_kr (by kernel_rfl), of_kik (by kernel_rfl), of_keq (by kernel_rfl)⟩
theorem tiok58 : TGood Try.prog 58 ti58 := ⟨of_kr (by kernel_rfl), of_kr (by kernel_rfl), of_kb (by kernel_rfl), of_kbo (by kernel_rfl), of_kr (by kernel_rfl), of_kfd (by kernel_rfl), of_kpl (by kernel_rfl), of_kr (by kernel_rfl), of_kr (by kernel_rfl), of_kik (by kernel_rfl), of_keq (by kernel_rfl)⟩
theorem tiok59 : TGood Try.prog 59 ti59 := ⟨of_kr (by kernel_rfl), of_kr (by kernel_rfl), of_kb (by kernel_rfl), of_kbo (by kernel_rfl), of_kr (by kernel_rfl), of_kfd (by kernel_rfl), of_kpl (by kernel_rfl), of_kr (by kernel_rfl), of_kr (by kernel_rfl), of_kik (by kernel_rfl), of_keq (by kernel_rfl)⟩
theorem tiok60 : TGood Try.prog 60 ti60 := ⟨of_kr (by kernel_rfl), of_kr (by kernel_rfl), of_kb (by kernel_rfl), of_kbo (by kernel_rfl), of_kr (by kernel_rfl), of_kfd (by kernel_rfl), of_kpl (by kernel_rfl), of_kr (by kernel_rfl), of_kr (by kernel_rfl), of_kik (by kernel_rfl), of_keq (by kernel_rfl)⟩
theorem tiok61 : TGood Try.prog 61 ti61 := ⟨of_kr (by kernel_rfl), of_kr (by kernel_rfl), of_kb (by kernel_rfl), of_kbo (by kernel_rfl), of_kr (by kernel_rfl), of_kfd (by kernel_rfl), of_kpl (by kernel_rfl), of_kr (by kernel_rfl), of_kr (by kernel_rfl), of_kik (by kernel_rfl), of_keq (by kernel_rfl)⟩
theorem tiok62 : TGood Try.prog 62 ti62 := ⟨of_kr (by kernel_rfl), of_kr (by kernel_rfl), of_kb (by kernel_rfl), of_kbo (by kernel_rfl), of_kr (by kernel_rfl), of_kfd (by kernel_rfl), of_kpl (by kernel_rfl), of_kr (by kernel_rfl), of_kr (by kernel_rfl), of_kik (by kernel_rfl), of_keq (by kernel_rfl)⟩
theorem tiok63 : TGood Try.prog 63 ti63 := ⟨of_kr (by kernel_rfl), of_kr (by kernel_rfl), of_kb (by kernel_rfl), of_kbo (by kernel_rfl), of_kr (by kernel_rfl), of_kfd (by kernel_rfl), of_kpl (by kernel_rfl), of_kr (by kernel_rfl), of_kr (by kernel_rfl), of_kik (by kernel_rfl), of_keq (by kernel_rfl)⟩
theorem tiok64 : TGood Try.prog 64 ti64 := ⟨of_kr (by kernel_rfl), of_kr (by kernel_rfl), of_kb (by kernel_rfl), of_kbo (by kernel_rfl), of_kr (by kernel_rfl), of_kfd (by kernel_rfl), of_kpl (by kernel_rfl), of_kr (by kernel_rfl), of_kr (by kernel_rfl), of_kik (by kernel_rfl), of_keq (by kernel_rfl)⟩
theorem tiok65 : TGood Try.prog 65 ti65 := ⟨of_kr (by kernel_rfl), of_kr (by kernel_rfl), of_kb (by kernel_rfl), of_kbo (by kernel_rfl), of_kr (by kernel_rfl), of_kfd (by kernel_rfl), of_kpl (by kernel_rfl), of_kr (by kernel_rfl), of_kr (by kernel_rfl), of_kik (by kernel_rfl), of_keq (by kernel_rfl)⟩
theorem tiok66 : TGood Try.prog 66 ti66 := ⟨of_kr (by kernel_rfl), of_kr (by kernel_rfl), of_kb (by kernel_rfl), of_kbo (by kernel_rfl), of_kr (by kernel_rfl), of_kfd (by kernel_rfl), of_kpl (by kernel_rfl), of_kr (by kernel_rfl), of_kr (by kernel_rfl), of_kik (by kernel_rfl), of_keq (by kernel_rfl)⟩
theorem tiok67 : TGood Try.prog 67 ti67 := ⟨of_kr (by kernel_rfl), of_kr (by kernel_rfl), of_kb (by kernel_rfl), of_kbo (by kernel_rfl), of_kr (by kernel_rfl), of_kfd (by kernel_rfl), of_kpl (by kernel_rfl), of_kr (by kernel_rfl), of_kr (by kernel_rfl), of_kik (by kernel_rfl), of_keq (by kernel_rfl)⟩
theorem tiok68 : TGood Try.prog 68 ti68 := ⟨of_kr (by kernel_rfl), of_kr (by kernel_rfl), of_kb (by kernel_rfl), of_kbo (by kernel_rfl), of_kr (by kernel_rfl), of_kfd (by kernel_rfl), of_kpl (by kernel_rfl), of_kr (by kernel_rfl), of_kr (by kernel_rfl), of_kik (by kernel_rfl), of_keq (by kernel_rfl)⟩
theorem tiok69 : TGood Try.prog 69 ti69 := ⟨of_kr (by kernel_rfl), of_kr (by kernel_rfl), of_kb (by kernel_rfl), of_kbo (by kernel_rfl), of_kr (by kernel_rfl), of_kfd (by kernel_rfl), of_kpl (by kernel_rfl), of_kr (by kernel_rfl), of_kr (by kernel_rfl), of_kik (by kernel_rfl), of_keq (by kernel_rfl)⟩
theorem tiok70 : TGood Try.prog 70 ti70 := ⟨of_kr (by kernel_rfl), of_kr (by kernel_rfl), of_kb (by kernel_rfl), of_kbo (by kernel_rfl), of_kr (by kernel_rfl), of_kfd (by kernel_rfl), of_kpl (by kernel_rfl), of_kr (by kernel_rfl), of_kr (by kernel_rfl), of_kik (by kernel_rfl), of_keq (by kernel_rfl)⟩
theorem tiok72 : TGood Try.prog 72 ti72 := ⟨of_kr (by kernel_rfl), of_kr (by kernel_rfl), of_kb (by kernel_rfl), of_kbo (by kernel_rfl), of_kr (by kernel_rfl), of_kfd (by kernel_rfl), of_kpl (by kernel_rfl), of_kr (by kernel_rfl), of_kr (by kernel_rfl), of_kik (by kernel_rfl), of_keq (by kernel_rfl)⟩
theorem tiok73 : TGood Try.prog 73 ti73 := ⟨of_kr (by kernel_rfl), of_kr (by kernel_rfl), of_kb (by kernel_rfl), of_kbo (by kernel_rfl), of_kr (by kernel_rfl), of_kfd (by kernel_rfl), of_kpl (by kernel_rfl), of_kr (by kernel_rfl), of_kr (by kernel_rfl), of_kik (by kernel_rfl), of_keq (by kernel_rfl)⟩
theorem tiok74 : TGood Try.prog 74 ti74 := ⟨of_kr (by kernel_rfl), of_kr (by kernel_rfl), of_kb (by kernel_rfl), of_kbo (by kernel_rfl), of_kr (by kernel_rfl), of_kfd (by kernel_rfl), of_kpl (by kernel_rfl), of_kr (by kernel_rfl), of_kr (by kernel_rfl), of_kik (by kernel_rfl), of_keq (by kernel_rfl)⟩
theorem tiok75 : TGood Try.prog 75 ti75 := ⟨of_kr (by kernel_rfl), of_kr (by kernel_rfl), of_kb (by kernel_rfl), of_kbo (by kernel_rfl), of_kr (by kernel_rfl), of_kfd (by kernel_rfl), of_kpl (by kernel_rfl), of_kr (by kernel_rfl), of_kr (by kernel_rfl), of_kik (by kernel_rfl), of_keq (by kernel_rfl)⟩
theorem tiok76 : TGood Try.prog 76 ti76 := ⟨of_kr (by kernel_rfl), of_kr (by kernel_rfl), of_kb (by kernel_rfl), of_kbo (by kernel_rfl), of_kr (by kernel_rfl), of_kfd (by kernel_rfl), of_kpl (by kernel_rfl), of_kr (by kernel_rfl), of_kr (by kernel_rfl), of_kik (by kernel_rfl), of_keq (by kernel_rfl)⟩
theorem tiok77 : TGood Try.prog 77 ti77 := ⟨of_kr (by kernel_rfl), of_kr (by kernel_rfl), of_kb (by kernel_rfl), of_kbo (by kernel_rfl), of_kr (by kernel_rfl), of_kfd (by kernel_rfl), of_kpl (by kernel_rfl), of_kr (by kernel_rfl), of_kr (by kernel_rfl), of_kik (by kernel_rfl), of_keq (by kernel_rfl)⟩
theorem tiok78 : TGood Try.prog 78 ti78 := ⟨of_kr (by kernel_rfl), of_kr (by kernel_rfl), of_kb (by kernel_rfl), of_kbo (by kernel_rfl), of_kr (by kernel_rfl), of_kfd (by kernel_rfl), of_kpl (by kernel_rfl), of_kr (by kernel_rfl), of_kr (by kernel_rfl), of_kik (by kernel_rfl), of_keq (by kernel_rfl)⟩
theorem tiok79 : TGood Try.prog 79 ti79 := ⟨of_kr (by kernel_rfl), of_kr (by kernel_rfl), of_kb (by kernel_rfl), of_kbo (by kernel_rfl), of_kr (by kernel_rfl), of_kfd (by kernel_rfl), of_kpl (by kernel_rfl), of_kr (by kernel_rfl), of_kr (by kernel_rfl), of_kik (by kernel_rfl), of_keq (by kernel_rfl)⟩
theorem tiok80 : TGood Try.prog 80 ti80 := ⟨of_kr (by kernel_rfl), of_kr (by kernel_rfl), of_kb (by kernel_rfl), of_kbo (by kernel_rfl), of_kr (by kernel_rfl), of_kfd (by kernel_rfl), of_kpl (by kernel_rfl), of_kr (by kernel_rfl), of_kr (by kernel_rfl), of_kik (by kernel_rfl), of_keq (by kernel_rfl)⟩
theorem tiok81 : TGood Try.prog 81 ti81 := ⟨of_kr (by kernel_rfl), of_kr (by kernel_rfl), of_kb (by kernel_rfl), of_kbo (by kernel_rfl), of_kr (by kernel_rfl), of_kfd (by kernel_rfl), of_kpl (by kernel_rfl), of_kr (by kernel_rfl), of_kr (by kernel_rfl), of_kik (by kernel_rfl), of_keq (by kernel_rfl)⟩
theorem tiok83 : TGood Try.prog 83 ti83 := ⟨of_kr (by kernel_rfl), of_kr (by kernel_rfl), of_kb (by kernel_rfl), of_kbo (by kernel_rfl), of_kr (by kernel_rfl), of_kfd (by kernel_rfl), of_kpl (by kernel_rfl), of_kr (by kernel_rfl), of_kr (by kernel_rfl), of_kik (by kernel_rfl), of_keq (by kernel_rfl)⟩
theorem tiok84 : TGood Try.prog 84 ti84 := ⟨of_kr (by kernel_rfl), of_kr (by kernel_rfl), of_kb (by kernel_rfl), of_kbo (by kernel_rfl), of_kr (by kernel_rfl), of_kfd (by kernel_rfl), of_kpl (by kernel_rfl), of_kr (by kernel_rfl), of_kr (by kernel_rfl), of_kik (by kernel_rfl), of_keq (by kernel_rfl)⟩
theorem tiok85 : TGood Try.prog 85 ti85 := ⟨of_kr (by kernel_rfl), of_kr (by kernel_rfl), of_kb (by kernel_rfl), of_kbo (by kernel_rfl), of_kr (by kernel_rfl), of_kfd (by kernel_rfl), of_kpl (by kernel_rfl), of_kr (by kernel_rfl), of_kr (by kernel_rfl), of_kik (by kernel_rfl), of_keq (by kernel_rfl)⟩
theorem tiok86 : TGood Try.prog 86 ti86 := ⟨of_kr (by kernel_rfl), of_kr (by kernel_rfl), of_kb (by kernel_rfl), of_kbo (by kernel_rfl), of_kr (by kernel_rfl), of_kfd (by kernel_rfl), of_kpl (by kernel_rfl), of_kr (by kernel_rfl), of_kr (by kernel_rfl), of_kik (by kernel_rfl), of_keq (by kernel_rfl)⟩
theorem tiok87 : TGood Try.prog 87 ti87 := ⟨of_kr (by kernel_rfl), of_kr (by kernel_rfl), of_kb (by kernel_rfl), of_kbo (by kernel_rfl), of_kr (by kernel_rfl), of_kfd (by kernel_rfl), of_kpl (by kernel_rfl), of_kr (by kernel_rfl), of_kr (by kernel_rfl), of_kik (by kernel_rfl), of_keq (by kernel_rfl)⟩
theorem tiok88 : TGood Try.prog 88 ti88 := ⟨of_kr (by kernel_rfl), of_kr (by kernel_rfl), of_kb (by kernel_rfl), of_kbo (by kernel_rfl), of_kr (by kernel_rfl), of_kfd (by kernel_rfl), of_kpl (by kernel_rfl), of_kr (by kernel_rfl), of_kr (by kernel_rfl), of_kik (by kernel_rfl), of_keq (by kernel_rfl)⟩
theorem tiok89 : TGood Try.prog 89 ti89 := ⟨of_kr (by kernel_rfl), of_kr (by kernel_rfl), of_kb (by kernel_rfl), of_kbo (by kernel_rfl), of_kr (by kernel_rfl), of_kfd (by kernel_rfl), of_kpl (by kernel_rfl), of_kr (by kernel_rfl), of_kr (by kernel_rfl), of_kik (by kernel_rfl), of_keq (by kernel_rfl)⟩
theorem tiok91 : TGood Try.prog 91 ti91 := ⟨of_kr (by kernel_rfl), of_kr (by kernel_rfl), of_kb (by kernel_rfl), of_kbo (by kernel_rfl), of_kr (by kernel_rfl), of_kfd (by kernel_rfl), of_kpl (by kernel_rfl), of_kr (by kernel_rfl), of_kr (by kernel_rfl), of_kik (by kernel_rfl), of_keq (by kernel_rfl)⟩
theorem tiok92 : TGood Try.prog 92 ti92 := ⟨of_kr (by kernel_rfl), of_kr (by kernel_rfl), of_kb (by kernel_rfl), of_kbo (by kernel_rfl), of_kr (by kernel_rfl), of_kfd (by kernel_rfl), of_kpl (by kernel_rfl), of_kr (by kernel_rfl), of_kr (by kernel_rfl), of_kik (by kernel_rfl), of_keq (by kernel_rfl)⟩
theorem tiok93 : TGood Try.prog 93 ti93 := ⟨of_kr (by kernel_rfl), of_kr (by kernel_rfl), of_kb (by kernel_rfl), of_kbo (by kernel_rfl), of_kr (by kernel_rfl), of_kfd (by kernel_rfl), of_kpl (by kernel_rfl), of_kr (by kernel_rfl), of_kr (by kernel_rfl), of_kik (by kernel_rfl), of_keq (by kernel_rfl)⟩
theorem tiok94 : TGood Try.prog 94 ti94 := ⟨of_kr (by kernel_rfl), of_kr (by kernel_rfl), of_kb (by kernel_rfl), of_kbo (by kernel_rfl), of_kr (by kernel_rfl), of_kfd (by kernel_rfl), of_kpl (by kernel_rfl), of_kr (by kernel_rfl), of_kr (by kernel_rfl), of_kik (by kernel_rfl), of_keq (by kernel_rfl)⟩
theorem tiok95 : TGood Try.prog 95 ti95 := ⟨of_kr (by kernel_rfl), of_kr (by kernel_rfl), of_kb (by kernel_rfl), of_kbo (by kernel_rfl), of_kr (by kernel_rfl), of_kfd (by kernel_rfl), of_kpl (by kernel_rfl), of_kr (by kernel_rfl), of_kr (by kernel_rfl), of_kik (by kernel_rfl), of_keq (by kernel_rfl)⟩
theorem tiok96 : TGood Try.prog 96 ti96 := ⟨of_kr (by kernel_rfl), of_kr (by kernel_rfl), of_kb (by kernel_rfl), of_kbo (by kernel_rfl), of_kr (by kernel_rfl), of_kfd (by kernel_rfl), of_kpl (by kernel_rfl), of_kr (by kernel_rfl), of_kr (by kernel_rfl), of_kik (by kernel_rfl), of_keq (by kernel_rfl)⟩
theorem tiok97 : TGood Try.prog 97 ti97 := ⟨of_kr (by kernel_rfl), of_kr (by kernel_rfl), of_kb (by kernel_rfl), of_kbo (by kernel_rfl), of_kr (by kernel_rfl), of_kfd (by kernel_rfl), of_kpl (by kernel_rfl), of_kr (by kernel_rfl), of_kr (by kernel_rfl), of_kik (by kernel_rfl), of_keq (by kernel_rfl)⟩
theorem tiok98 : TGood Try.prog 98 ti98 := ⟨of_kr (by kernel_rfl), of_kr (by kernel_rfl), of_kb (by kernel_rfl), of_kbo (by kernel_rfl), of_kr (by kernel_rfl), of_kfd (by kernel_rfl), of_kpl (by kernel_rfl), of_kr (by kernel_rfl), of_kr (by kernel_rfl), of_kik (by kernel_rfl), of_keq (by kernel_rfl)⟩
theorem tiok100 : TGood Try.prog 100 ti100 := ⟨of_kr (by kernel_rfl), of_kr (by kernel_rfl), of_kb (by kernel_rfl), of_kbo (by kernel_rfl), of_kr (by kernel_rfl), of_kfd (by kernel_rfl), of_kpl (by kernel_rfl), of_kr (by kernel_rfl), of_kr (by kernel_rfl), of_kik (by kernel_rfl), of_keq (by kernel_rfl)⟩
theorem tiok102 : TGood Try.prog 102 ti102 := ⟨of_kr (by kernel_rfl), of_kr (by kernel_rfl), of_kb (by kernel_rfl), of_kbo (by kernel_rfl), of_kr (by kernel_rfl), of_kfd (by kernel_rfl), of_kpl (by kernel_rfl), of_kr (by kernel_rfl), of_kr (by kernel_rfl), of_kik (by kernel_rfl), of_keq (by kernel_rfl)⟩
theorem tiok103 : TGood Try.prog 103 ti103 := ⟨of_kr (by kernel_rfl), of_kr (by kernel_rfl), of_kb (by kernel_rfl), of_kbo (by kernel_rfl), of_kr (by kernel_rfl), of_kfd (by kernel_rfl), of_kpl (by kernel_rfl), of_kr (by kernel_rfl), of_kr (by kernel_rfl), of_kik (by kernel_rfl), of_keq (by kernel_rfl)⟩
theorem tiok104 : TGood Try.prog 104 ti104 := ⟨of_kr (by kernel_rfl), of_kr (by kernel_rfl), of_kb (by kernel_rfl), of_kbo (by kernel_rfl), of_kr (by kernel_rfl), of_kfd (by kernel_rfl), of_kpl (by kernel_rfl), of_kr (by kernel_rfl), of_kr (by kernel_rfl), of_kik (by kernel_rfl), of_keq (by kernel_rfl)⟩
theorem tiok105 : TGood Try.prog 105 ti105 := ⟨of_kr (by kernel_rfl), of_kr (by kernel_rfl), of_kb (by kernel_rfl), of_kbo (by kernel_rfl), of_kr (by kernel_rfl), of_kfd (by kernel_rfl), of_kpl (by kernel_rfl), of_kr (by kernel_rfl), of_kr (by kernel_rfl), of_kik (by kernel_rfl), of_keq (by kernel_rfl)⟩
theorem tiok106 : TGood Try.prog 106 ti106 := ⟨of_kr (by kernel_rfl), of_kr (by kernel_rfl), of_kb (by kernel_rfl), of_kbo (by kernel_rfl), of_kr (by kernel_rfl), of_kfd (by kernel_rfl), of_kpl (by kernel_rfl), of_kr (by kernel_rfl), of_kr (by kernel_rfl), of_kik (by kernel_rfl), of_keq (by kernel_rfl)⟩
theorem tiok107 : TGood Try.prog 107 ti107 := ⟨of_kr (by kernel_rfl), of_kr (by kernel_rfl), of_kb (by kernel_rfl), of_kbo (by kernel_rfl), of_kr (by kernel_rfl), of_kfd (by kernel_rfl), of_kpl (by kernel_rfl), of_kr (by kernel_rfl), of_kr (by kernel_rfl), of_kik (by kernel_rfl), of_keq (by kernel_rfl)⟩
theorem tiok108 : TGood Try.prog 108 ti108 := ⟨of_kr (by kernel_rfl), of_kr (by kernel_rfl), of_kb (by kernel_rfl), of_kbo (by kernel_rfl), of_kr (by kernel_rfl), of_kfd (by kernel_rfl), of_kpl (by kernel_rfl), of_kr (by kernel_rfl), of_kr (by kernel_rfl), of_kik (by kernel_rfl), of_keq (by kernel_rfl)⟩
theorem tiok109 : TGood Try.prog 109 ti109 := ⟨of_kr (by kernel_rfl), of_kr (by kernel_rfl), of_kb (by kernel_rfl), of_kbo (by kernel_rfl), of_kr (by kernel_rfl), of_kfd (by kernel_rfl), of_kpl (by kernel_rfl), of_kr (by kernel_rfl), of_kr (by kernel_rfl), of_kik (by kernel_rfl), of_keq (by kernel_rfl)⟩
theorem tiok110 : TGood Try.prog 110 ti110 := ⟨of_kr (by kernel_rfl), of_kr (by kernel_rfl), of_kb (by kernel_rfl), of_kbo (by kernel_rfl), of_kr (by kernel_rfl), of_kfd (by kernel_rfl), of_kpl (by kernel_rfl), of_kr (by kernel_rfl), of_kr (by kernel_rfl), of_kik (by kernel_rfl), of_keq (by kernel_rfl)⟩
theorem tiok112 : TGood Try.prog 112 ti112 := ⟨of_kr (by kernel_rfl), of_kr (by kernel_rfl), of_kb (by kernel_rfl), of_kbo (by kernel_rfl), of_kr (by kernel_rfl), of_kfd (by kernel_rfl), of_kpl (by kernel_rfl), of_kr (by kernel_rfl), of_kr (by kernel_rfl), of_kik (by kernel_rfl), of_keq (by kernel_rfl)⟩
theorem tiok113 : TGood Try.prog 113 ti113 := ⟨of_kr (by kernel_rfl), of_kr (by kernel_rfl), of_kb (by kernel_rfl), of_kbo (by kernel_rfl), of_kr (by kernel_rfl), of_kfd (by kernel_rfl), of_kpl (by kernel_rfl), of_kr (by kernel_rfl), of_kr (by kernel_rfl), of_kik (by kernel_rfl), of_keq (by kernel_rfl)⟩
theorem tiok114 : TGood Try.prog 114 ti114 := ⟨of_kr (by kernel_rfl), of_kr (by kernel_rfl), of_kb (by kernel_rfl), of_kbo (by kernel_rfl), of_kr (by kernel_rfl), of_kfd (by kernel_rfl), of_kpl (by kernel_rfl), of_kr (by kernel_rfl), of_kr (by kernel_rfl), of_kik (by kernel_rfl), of_keq (by kernel_rfl)⟩
theorem tiok116 : TGood Try.prog 116 ti116 := ⟨of_kr (by kernel_rfl), of_kr (by kernel_rfl), of_kb (by kernel_rfl), of_kbo (by kernel_rfl), of_kr (by kernel_rfl), of_kfd (by kernel_rfl), of_kpl (by kernel_rfl), of_kr (by kernel_rfl), of_kr (by kernel_rfl), of_kik (by kernel_rfl), of_keq (by kernel_rfl)⟩
theorem tiok117 : TGood Try.prog 117 ti117 := ⟨of_kr (by kernel_rfl), of_kr (by kernel_rfl), of_kb (by kernel_rfl), of_kbo (by kernel_rfl), of_kr (by kernel_rfl), of_kfd (by kernel_rfl), of_kpl (by kernel_rfl), of_kr (by kernel_rfl), of_kr (by kernel_rfl), of_kik (by kernel_rfl), of_keq (by kernel_rfl)⟩
theorem tiok118 : TGood Try.prog 118 ti118 := ⟨of_kr (by kernel_rfl), of_kr (by kernel_rfl), of_kb (by kernel_rfl), of_kbo (by kernel_rfl), of_kr (by kernel_rfl), of_kfd (by kernel_rfl), of_kpl (by kernel_rfl), of_kr (by kernel_rfl), of_kr (by kernel_rfl), of_kik (by kernel_rfl), of_keq (by kernel_rfl)⟩
theorem tiok119 : TGood Try.prog 119 ti119 := ⟨of_kr (by kernel_rfl), of_kr (by kernel_rfl), of_kb (by kernel_rfl), of_kbo (by kernel_rfl), of_kr (by kernel_rfl), of_kfd (by kernel_rfl), of_kpl (by kernel_rfl), of_kr (by kernel_rfl), of_kr (by kernel_rfl), of_kik (by kernel_rfl), of_keq (by kernel_rfl)⟩
theorem tiok120 : TGood Try.prog 120 ti120 := ⟨of_kr (by kernel_rfl), of_kr (by kernel_rfl), of_kb (by kernel_rfl), of_kbo (by kernel_rfl), of_kr (by kernel_rfl), of_kfd (by kernel_rfl), of_kpl (by kernel_rfl), of_kr (by kernel_rfl), of_kr (by kernel_rfl), of_kik (by kernel_rfl), of_keq (by kernel_rfl)⟩
theorem tiok121 : TGood Try.prog 121 ti121 := ⟨of_kr (by kernel_rfl), of_kr (by kernel_rfl), of_kb (by kernel_rfl), of_kbo (by kernel_rfl), of_kr (by kernel_rfl), of_kfd (by kernel_rfl), of_kpl (by kernel_rfl), of_kr (by kernel_rfl), of_kr (by kernel_rfl), of_kik (by kernel_rfl), of_keq (by kernel_rfl)⟩
theorem tiok122 : TGood Try.prog 122 ti122 := ⟨of_kr (by kernel_rfl), of_kr (by kernel_rfl), of_kb (by kernel_rfl), of_kbo (by kernel_rfl), of_kr (by kernel_rfl), of_kfd (by kernel_rfl), of_kpl (by kernel_rfl), of_kr (by kernel_rfl), of_kr (by kernel_rfl), of_kik (by kernel_rfl), of_keq (by kernel_rfl)⟩
theorem tiok123 : TGood Try.prog 123 ti123 := ⟨of_kr (by kernel_rfl), of_kr (by kernel_rfl), of_kb (by kernel_rfl), of_kbo (by kernel_rfl), of_kr (by kernel_rfl), of_kfd (by kernel_rfl), of_kpl (by kernel_rfl), of_kr (by kernel_rfl), of_kr (by kernel_rfl), of_kik (by kernel_rfl), of_keq (by kernel_rfl)⟩
theorem tiok125 : TGood Try.prog 125 ti125 := ⟨of_kr (by kernel_rfl), of_kr (by kernel_rfl), of_kb (by kernel_rfl), of_kbo (by kernel_rfl), of_kr (by kernel_rfl), of_kfd (by kernel_rfl), of_kpl (by kernel_rfl), of_kr (by kernel_rfl), of_kr (by kernel_rfl), of_kik (by kernel_rfl), of_keq (by kernel_rfl)⟩
theorem tiok126 : TGood Try.prog 126 ti126 := ⟨of_kr (by kernel_rfl), of_kr (by kernel_rfl), of_kb (by kernel_rfl), of_kbo (by kernel_rfl), of_kr (by kernel_rfl), of_kfd (by kernel_rfl), of_kpl (by kernel_rfl), of_kr (by kernel_rfl), of_kr (by kernel_rfl), of_kik (by kernel_rfl), of_keq (by kernel_rfl)⟩
theorem tiok127 : TGood Try.prog 127 ti127 := ⟨of_kr (by kernel_rfl), of_kr (by kernel_rfl), of_kb (by kernel_rfl), of_kbo (by kernel_rfl), of_kr (by kernel_rfl), of_kfd (by kernel_rfl), of_kpl (by kernel_rfl), of_kr (by kernel_rfl), of_kr (by kernel_rfl), of_kik (by kernel_rfl), of_keq (by kernel_rfl)⟩
theorem tiok128 : TGood Try.prog 128 ti128 := ⟨of_kr (by kernel_rfl), of_kr (by kernel_rfl), of_kb (by kernel_rfl), of_kbo (by kernel_rfl), of_kr (by kernel_rfl), of_kfd (by kernel_rfl), of_kpl (by kernel_rfl), of_kr (by kernel_rfl), of_kr (by kernel_rfl), of_kik (by kernel_rfl), of_keq (by kernel_rfl)⟩
theorem tiok130 : TGood Try.prog 130 ti130 := ⟨of_kr (by kernel_rfl), of_kr (by kernel_rfl), of_kb (by kernel_rfl), of_kbo (by kernel_rfl), of_kr (by kernel_rfl), of_kfd (by kernel_rfl), of_kpl (by kernel_rfl), of_kr (by kernel_rfl), of_kr (by kernel_rfl), of_kik (by kernel_rfl), of_keq (by kernel_rfl)⟩
theorem tiok131 : TGood Try.prog 131 ti131 := ⟨of_kr (by kernel_rfl), of_kr (by kernel_rfl), of_kb (by kernel_rfl), of_kbo (by kernel_rfl), of_kr (by kernel_rfl), of_kfd (by kernel_rfl), of_kpl (by kernel_rfl), of_kr (by kernel_rfl), of_kr (by kernel_rfl), of_kik (by kernel_rfl), of_keq (by kernel_rfl)⟩
theorem tiok132 : TGood Try.prog 132 ti132 := ⟨of_kr (by kernel_rfl), of_kr (by kernel_rfl), of_kb (by kernel_rfl), of_kbo (by kernel_rfl), of_kr (by kernel_rfl), of_kfd (by kernel_rfl), of_kpl (by kernel_rfl), of_kr (by kernel_rfl), of_kr (by kernel_rfl), of_kik (by kernel_rfl), of_keq (by kernel_rfl)⟩
theorem tiok133 : TGood Try.prog 133 ti133 := ⟨of_kr (by kernel_rfl), of_kr (by kernel_rfl), of_kb (by kernel_rfl), of_kbo (by kernel_rfl), of_kr (by kernel_rfl), of_kfd (by kernel_rfl), of_kpl (by kernel_rfl), of_kr (by kernel_rfl), of_kr (by kernel_rfl), of_kik (by kernel_rfl), of_keq (by kernel_rfl)⟩
theorem tiok134 : TGood Try.prog 134 ti134 := ⟨of_kr (by kernel_rfl), of_kr (by kernel_rfl), of_kb (by kernel_rfl), of_kbo (by kernel_rfl), of_kr (by kernel_rfl), of_kfd (by kernel_rfl), of_kpl (by kernel_rfl), of_kr (by kernel_rfl), of_kr (by kernel_rfl), of_kik (by kernel_rfl), of_keq (by kernel_rfl)⟩
theorem tiok135 : TGood Try.prog 135 ti135 := ⟨of_kr (by kernel_rfl), of_kr (by kernel_rfl), of_kb (by kernel_rfl), of_kbo (by kernel_rfl), of_kr (by kernel_rfl), of_kfd (by kernel_rfl), of_kpl (by kernel_rfl), of_kr (by kernel_rfl), of_kr (by kernel_rfl), of_kik (by kernel_rfl), of_keq (by kernel_rfl)⟩
theorem tiok136 : TGood Try.prog 136 ti136 := ⟨of_kr (by kernel_rfl), of_kr (by kernel_rfl), of_kb (by kernel_rfl), of_kbo (by kernel_rfl), of_kr (by kernel_rfl), of_kfd (by kernel_rfl), of_kpl (by kernel_rfl), of_kr (by kernel_rfl), of_kr (by kernel_rfl), of_kik (by kernel_rfl), of_keq (by kernel_rfl)⟩
theorem tiok137 : TGood Try.prog 137 ti137 := ⟨of_kr (by kernel_rfl), of_kr (by kernel_rfl), of_kb (by kernel_rfl), of_kbo (by kernel_rfl), of_kr (by kernel_rfl), of_kfd (by kernel_rfl), of_kpl (by kernel_rfl), of_kr (by kernel_rfl), of_kr (by kernel_rfl), of_kik (by kernel_rfl), of_keq (by kernel_rfl)⟩
theorem tiok138 : TGood Try.prog 138 ti138 := ⟨of_kr (by kernel_rfl), of_kr (by kernel_rfl), of_kb (by kernel_rfl), of_kbo (by kernel_rfl), of_kr (by kernel_rfl), of_kfd (by kernel_rfl), of_kpl (by kernel_rfl), of_kr (by kernel_rfl), of_kr (by kernel_rfl), of_kik (by kernel_rfl), of_keq (by kernel_rfl)⟩
theorem tiok139 : TGood Try.prog 139 ti139 := ⟨of_kr (by kernel_rfl), of_kr (by kernel_rfl), of_kb (by kernel_rfl), of_kbo (by kernel_rfl), of_kr (by kernel_rfl), of_kfd (by kernel_rfl), of_kpl (by kernel_rfl), of_kr (by kernel_rfl), of_kr (by kernel_rfl), of_kik (by kernel_rfl), of_keq (by kernel_rfl)⟩
theorem tiok140 : TGood Try.prog 140 ti140 := ⟨of_kr (by kernel_rfl), of_kr (by kernel_rfl), of_kb (by kernel_rfl), of_kbo (by kernel_rfl), of_kr (by kernel_rfl), of_kfd (by kernel_rfl), of_kpl (by kernel_rfl), of_kr (by kernel_rfl), of_kr (by kernel_rfl), of_kik (by kernel_rfl), of_keq (by kernel_rfl)⟩
theorem tiok141 : TGood Try.prog 141 ti141 := ⟨of_kr (by kernel_rfl), of_kr (by kernel_rfl), of_kb (by kernel_rfl), of_kbo (by kernel_rfl), of_kr (by kernel_rfl), of_kfd (by kernel_rfl), of_kpl (by kernel_rfl), of_kr (by kernel_rfl), of_kr (by kernel_rfl), of_kik (by kernel_rfl), of_keq (by kernel_rfl)⟩
theorem tiok142 : TGood Try.prog 142 ti142 := ⟨of_kr (by kernel_rfl), of_kr (by kernel_rfl), of_kb (by kernel_rfl), of_kbo (by kernel_rfl), of_kr (by kernel_rfl), of_kfd (by kernel_rfl), of_kpl (by kernel_rfl), of_kr (by kernel_rfl), of_kr (by kernel_rfl), of_kik (by kernel_rfl), of_keq (by kernel_rfl)⟩
theorem tiok143 : TGood Try.prog 143 ti143 := ⟨of_kr (by kernel_rfl), of_kr (by kernel_rfl), of_kb (by kernel_rfl), of_kbo (by kernel_rfl), of_kr (by kernel_rfl), of_kfd (by kernel_rfl), of_kpl (by kernel_rfl), of_kr (by kernel_rfl), of_kr (by kernel_rfl), of_kik (by kernel_rfl), of_keq (by kernel_rfl)⟩
theorem tiok144 : TGood Try.prog 144 ti144 := ⟨of_kr (by kernel_rfl), of_kr (by kernel_rfl), of_kb (by kernel_rfl), of_kbo (by kernel_rfl), of_kr (by kernel_rfl), of_kfd (by kernel_rfl), of_kpl (by kernel_rfl), of_kr (by kernel_rfl), of_kr (by kernel_rfl), of_kik (by kernel_rfl), of_keq (by kernel_rfl)⟩
theorem tiok147 : TGood Try.prog 147 ti147 := ⟨of_kr (by kernel_rfl), of_kr (by kernel_rfl), of_kb (by kernel_rfl), of_kbo (by kernel_rfl), of_kr (by kernel_rfl), of_kfd (by kernel_rfl), of_kpl (by kernel_rfl), of_kr (by kernel_rfl), of_kr (by kernel_rfl), of_kik (by kernel_rfl), of_keq (by kernel_rfl)⟩
theorem tiok148 : TGood Try.prog 148 ti148 := ⟨of_kr (by kernel_rfl), of_kr (by kernel_rfl), of_kb (by kernel_rfl), of_kbo (by kernel_rfl), of_kr (by kernel_rfl), of_kfd (by kernel_rfl), of_kpl (by kernel_rfl), of_kr (by kernel_rfl), of_kr (by kernel_rfl), of_kik (by kernel_rfl), of_keq (by kernel_rfl)⟩
theorem tiok149 : TGood Try.prog 149 ti149 := ⟨of_kr (by kernel_rfl), of_kr (by kernel_rfl), of_kb (by kernel_rfl), of_kbo (by kernel_rfl), of_kr (by kernel_rfl), of_kfd (by kernel_rfl), of_kpl (by kernel_rfl), of_kr (by kernel_rfl), of_kr (by kernel_rfl), of_kik (by kernel_rfl), of_keq (by kernel_rfl)⟩
theorem tiok150 : TGood Try.prog 150 ti150 := ⟨of_kr (by kernel_rfl), of_kr (by kernel_rfl), of_kb (by kernel_rfl), of_kbo (by kernel_rfl), of_kr (by kernel_rfl), of_kfd (by kernel_rfl), of_kpl (by kernel_rfl), of_kr (by kernel_rfl), of_kr (by kernel_rfl), of_kik (by kernel_rfl), of_keq (by kernel_rfl)⟩
theorem tiok151 : TGood Try.prog 151 ti151 := ⟨of_kr (by kernel_rfl), of_kr (by kernel_rfl), of_kb (by kernel_rfl), of_kbo (by kernel_rfl), of_kr (by kernel_rfl), of_kfd (by kernel_rfl), of_kpl (by kernel_rfl), of_kr (by kernel_rfl), of_kr (by kernel_rfl), of_kik (by kernel_rfl), of_keq (by kernel_rfl)⟩
theorem tiok152 : TGood Try.prog 152 ti152 := ⟨of_kr (by kernel_rfl), of_kr (by kernel_rfl), of_kb (by kernel_rfl), of_kbo (by kernel_rfl), of_kr (by kernel_rfl), of_kfd (by kernel_rfl), of_kpl (by kernel_rfl), of_kr (by kernel_rfl), of_kr (by kernel_rfl), of_kik (by kernel_rfl), of_keq (by kernel_rfl)⟩
theorem tiok153 : TGood Try.prog 153 ti153 := ⟨of_kr (by kernel_rfl), of_kr (by kernel_rfl), of_kb (by kernel_rfl), of_kbo (by kernel_rfl), of_kr (by kernel_rfl), of_kfd (by kernel_rfl), of_kpl (by kernel_rfl), of_kr (by kernel_rfl), of_kr (by kernel_rfl), of_kik (by kernel_rfl), of_keq (by kernel_rfl)⟩
theorem tiok154 : TGood Try.prog 154 ti154 := ⟨of_kr (by kernel_rfl), of_kr (by kernel_rfl), of_kb (by kernel_rfl), of_kbo (by kernel_rfl), of_kr (by kernel_rfl), of_kfd (by kernel_rfl), of_kpl (by kernel_rfl), of_kr (by kernel_rfl), of_kr (by kernel_rfl), of_kik (by kernel_rfl), of_keq (by kernel_rfl)⟩
theorem tiok155 : TGood Try.prog 155 ti155 := ⟨of_kr (by kernel_rfl), of_kr (by kernel_rfl), of_kb (by kernel_rfl), of_kbo (by kernel_rfl), of_kr (by kernel_rfl), of_kfd (by kernel_rfl), of_kpl (by kernel_rfl), of_kr (by kernel_rfl), of_kr (by kernel_rfl), of_kik (by kernel_rfl), of_keq (by kernel_rfl)⟩
theorem tiok156 : TGood Try.prog 156 ti156 := ⟨of_kr (by kernel_rfl), of_kr (by kernel_rfl), of_kb (by kernel_rfl), of_kbo (by kernel_rfl), of_kr (by kernel_rfl), of_kfd (by kernel_rfl), of_kpl (by kernel_rfl), of_kr (by kernel_rfl), of_kr (by kernel_rfl), of_kik (by kernel_rfl), of_keq (by kernel_rfl)⟩
theorem tiok157 : TGood Try.prog 157 ti157 := ⟨of_kr (by kernel_rfl), of_kr (by kernel_rfl), of_kb (by kernel_rfl), of_kbo (by kernel_rfl), of_kr (by kernel_rfl), of_kfd (by kernel_rfl), of_kpl (by kernel_rfl), of_kr (by kernel_rfl), of_kr (by kernel_rfl), of_kik (by kernel_rfl), of_keq (by kernel_rfl)⟩
theorem tiok158 : TGood Try.prog 158 ti158 := ⟨of_kr (by kernel_rfl), of_kr (by kernel_rfl), of_kb (by kernel_rfl), of_kbo (by kernel_rfl), of_kr (by kernel_rfl), of_kfd (by kernel_rfl), of_kpl (by kernel_rfl), of_kr (by kernel_rfl), of_kr (by kernel_rfl), of_kik (by kernel_rfl), of_keq (by kernel_rfl)⟩
theorem tiok159 : TGood Try.prog 159 ti159 := ⟨of_kr (by kernel_rfl), of_kr (by kernel_rfl), of_kb (by kernel_rfl), of_kbo (by kernel_rfl), of_kr (by kernel_rfl), of_kfd (by kernel_rfl), of_kpl (by kernel_rfl), of_kr (by kernel_rfl), of_kr (by kernel_rfl), of_kik (by kernel_rfl), of_keq (by kernel_rfl)⟩
def T (t : TypeId) : TInfo := tiF tiL t
theorem tOk : TOk Try.prog T := tok_of (tiAll_cons tiok1 (tiAll_cons tiok2 (tiAll_cons tiok3 (tiAll_cons tiok4 (tiAll_cons tiok5 (tiAll_cons tiok6 (tiAll_cons tiok7 (tiAll_cons tiok8 (tiAll_cons tiok12 (tiAll_cons tiok15 (tiAll_cons tiok16 (tiAll_cons tiok17 (tiAll_cons tiok18 (tiAll_cons tiok19 (tiAll_cons tiok21 (tiAll_cons tiok22 (tiAll_cons tiok23 (tiAll_cons tiok24 (tiAll_cons tiok25 (tiAll_cons tiok26 (tiAll_cons tiok27 (tiAll_cons tiok28 (tiAll_cons tiok29 (tiAll_cons tiok30 (tiAll_cons tiok31 (tiAll_cons tiok32 (tiAll_cons tiok33 (tiAll_cons tiok34 (tiAll_cons tiok35 (tiAll_cons tiok36 (tiAll_cons tiok37 (tiAll_cons tiok39 (tiAll_cons tiok41 (tiAll_cons tiok42 (tiAll_cons tiok43 (tiAll_cons tiok44 (tiAll_cons tiok45 (tiAll_cons tiok46 (tiAll_cons tiok48 (tiAll_cons tiok49 (tiAll_cons tiok50 (tiAll_cons tiok52 (tiAll_cons tiok53 (tiAll_cons tiok54 (tiAll_cons tiok55 (tiAll_cons tiok56 (tiAll_cons tiok57 (tiAll_cons tiok58 (tiAll_cons tiok59 (tiAll_cons tiok60 (tiAll_cons tiok61 (tiAll_cons tiok62 (tiAll_cons tiok63 (tiAll_cons tiok64 (tiAll_cons tiok65 (tiAll_cons tiok66 (tiAll_cons tiok67 (tiAll_cons tiok68 (tiAll_cons tiok69 (tiAll_cons tiok70 (tiAll_cons tiok72 (tiAll_cons tiok73 (tiAll_cons tiok74 (tiAll_cons tiok75 (tiAll_cons tiok76 (tiAll_cons tiok77 (tiAll_cons tiok78 (tiAll_cons tiok79 (tiAll_cons tiok80 (tiAll_cons tiok81 (tiAll_cons tiok83 (tiAll_cons tiok84 (tiAll_cons tiok85 (tiAll_cons tiok86 (tiAll_cons tiok87 (tiAll_cons tiok88 (tiAll_cons tiok89 (tiAll_cons tiok91 (tiAll_cons tiok92 (tiAll_cons tiok93 (tiAll_cons tiok94 (tiAll_cons tiok95 (tiAll_cons tiok96 (tiAll_cons tiok97 (tiAll_cons tiok98 (tiAll_cons tiok100 (tiAll_cons tiok102 (tiAll_cons tiok103 (tiAll_cons tiok104 (tiAll_cons tiok105 (tiAll_cons tiok106 (tiAll_cons tiok107 (tiAll_cons tiok108 (tiAll_cons tiok109 (tiAll_cons tiok110 (tiAll_cons tiok112 (tiAll_cons tiok113 (tiAll_cons tiok114 (tiAll_cons tiok116 (tiAll_cons tiok117 (tiAll_cons tiok118 (tiAll_cons tiok119 (tiAll_cons tiok120 (tiAll_cons tiok121 (tiAll_cons tiok122 (tiAll_cons tiok123 (tiAll_cons tiok125 (tiAll_cons tiok126 (tiAll_cons tiok127 (tiAll_cons tiok128 (tiAll_cons tiok130 (tiAll_cons tiok131 (tiAll_cons tiok132 (tiAll_cons tiok133 (tiAll_cons tiok134 (tiAll_cons tiok135 (tiAll_cons tiok136 (tiAll_cons tiok137 (tiAll_cons tiok138 (tiAll_cons tiok139 (tiAll_cons tiok140 (tiAll_cons tiok141 (tiAll_cons tiok142 (tiAll_cons tiok143 (tiAll_cons tiok144 (tiAll_cons tiok147 (tiAll_cons tiok148 (tiAll_cons tiok149 (tiAll_cons tiok150 (tiAll_cons tiok151 (tiAll_cons tiok152 (tiAll_cons tiok153 (tiAll_cons tiok154 (tiAll_cons tiok155 (tiAll_cons tiok156 (tiAll_cons tiok157 (tiAll_cons tiok158 (tiAll_cons tiok159 (tiAll_nil)))))))))))))))))))))))))))))))))))))))))))))))))))))))))))))))))))))))))))))))))))))))))))))))))))))))))))))))))))))))))))))))))))))))))))
theorem mixed : Try.prog.follows .mixedOrders = true := by kernel_rfl
end Go.Proofs.Ytdahghkmejnlgaa
end
section
set_option linter.unusedVariables false
set_option linter.unusedSimpArgs false
set_option maxRecDepth 100000
namespace Go.Proofs.Ytdahghkmejnlgaa
open Go Go.RowKit
/-- one operation, reckoned -/
theorem step_ex {P : Program} {T : TypeId → TInfo} (hT : TOk P T) {ops rest : List Oper} {Q : Exit → Act → World → Prop} {op : Op} {d : Nat} {ty : TypeId} {pos : String} {af : Array Edge} {E : ESt} {c0 : EV} {B : Bs} {Rd : Nat → Nat → Value → Prop} {e : Env} {a : Act} {w : World}
    (hx : exR T (eget E.t) (ehget E.h) op (fun c _ => some c) = some c0) (hga : Ga B Rd e (encE E) a w) (hd : Nat.blt d E.n = true) (hnd : ∀ c, op ≠ .defer c)
    (h : ∀ a', Ga B Rd e (encE ⟨E.n, (d, c0) :: E.t, E.h⟩) a' w → wpListIn Fence.wide 0 P ops.toArray Q rest a' w) : wpListIn Fence.wide 0 P ops.toArray Q (⟨some d, op, ty, pos, af, none⟩ :: rest) a w := by
  refine wpListIn_plain rfl fun K hK => ?_
  obtain ⟨c, us, hrs, hc⟩ := exR_ok hT hx
  cases hc
  obtain ⟨v, hv, hrun⟩ := hrs (encE E) (some d) ty pos af none (Sk.enc E) (Hk.enc E us) B Rd e a w hga
  refine ⟨fun f _ => trivial, ?_⟩
  rw [Oper.semAt_eq _ _ _ hnd, hrun w (Ext.refl w)]
  exact hK _ _ (h _ (hga.put (Nat.le_of_ble_eq_true hd) hv))
section
variable (l : Nat) (u : Value) (xs : List hdR.Val)
/-- what the iterator's frame is known to hold, ahead of a round -/
def bwE (i : Int) : ESt := ⟨19, [(3, .sc (.i .i64) i), (0, .v (.func (.yield l) #[] #[])), (1, .fp [.sc (.sl hdR) xs])], []⟩
def bwB (W : World) : Bs := ⟨W, fun _ => False, fun _ => none, fun _ => undef, []⟩
def bwEnv : Env := ⟨fun _ => none, fun _ => undef, fun _ => 0⟩
theorem bw_mine (W : World) (b : Nat) : (bwB W).mine b ↔ W.heap.size ≤ b := by simp [bwB, Bs.mine]
theorem bw_rd {Rd : Nat → Nat → Value → Prop} {W : World} {b o : Nat} {v : Value} : RDx (bwB W) Rd bwEnv [] W b o v ↔ W.cell? ⟨b, o, none⟩ = some v ∧ Rd b o v := by
  constructor
  · rintro ⟨h1, h2, _⟩
    refine ⟨h1, h2 fun hm => ?_⟩
    have := World.block_lt_of_cell? W _ h1
    rw [bw_mine] at hm
    simp only at this
    omega
  · rintro ⟨h1, h2⟩
    exact ⟨h1, fun _ => h2, fun k ob hk => by simp [hget] at hk⟩
theorem bw_sr {Rd : Nat → Nat → Value → Prop} (hgt : ∀ b o u, GT b o u → Rd b o u) {W : World} (hc : ∀ b o u, Rd b o u → W.cell? ⟨b, o, none⟩ = some u) : SR (bwB W) Rd bwEnv [] W := by
  refine ⟨⟨rfl, rfl, rfl, Nat.le_refl _, fun _ _ => rfl⟩, ⟨fun b o u hr => ⟨hc b o u hr, fun hm => ?_⟩, hgt⟩, fun k ob hk => by simp [hget] at hk, fun k ob b hk => by simp [hget] at hk, fun k k' ob ob' b hk => by simp [hget] at hk, fun k _ => ⟨rfl, rfl⟩⟩
  have := World.block_lt_of_cell? W _ (hc b o u hr)
  rw [bw_mine] at hm
  simp only at this
  omega
/-- the frame's slots, without the world -/
structure BwHead (Rd : Nat → Nat → Value → Prop) (i : Int) (a : Act) : Prop where
  d : a.defers = []
  n : a.tmps.size = 19
  y : a.tmps.getD 0 undef = .func (.yield l) #[] #[]
  p : VR Rd none (.fp [encS (.sl hdR) xs]) (a.tmps.getD 1 undef)
  i : a.tmps.getD 3 undef = .int .i64 i
theorem BwHead.ga {Rd : Nat → Nat → Value → Prop} (hgt : ∀ b o u, GT b o u → Rd b o u) {W : World} (hc : ∀ b o u, Rd b o u → W.cell? ⟨b, o, none⟩ = some u) {i : Int} {a : Act} (h : BwHead l xs Rd i a) : Ga (bwB W) Rd bwEnv (encE (bwE l xs i)) a W := by
  refine ⟨⟨h.n, (by show 19 ≤ 1000000; omega)⟩, h.d, bw_sr hgt hc, fun j => ?_⟩
  show VR _ _ (tget [(3, .v (.int .i64 i)), (0, .v (.func (.yield l) #[] #[])), (1, .fp [encS (.sl hdR) xs])] j) _
  simp only [tget]
  split
  · rename_i hj; subst hj; rw [h.i]; exact .v
  · split
    · rename_i hj; subst hj; rw [h.y]; exact .v
    · split
      · rename_i hj; subst hj; exact (h.p.mono fun b o u hr => bw_rd.2 ⟨hc b o u hr, hr⟩).some_of_none
      · exact .un
theorem BwHead.of {Rd : Nat → Nat → Value → Prop} {W : World} {i : Int} {a : Act} {E : ESt} (hg : Ga (bwB W) Rd bwEnv (encE E) a W) (hn : E.n = 19) (hh : E.h = []) (h0 : eget E.t 0 = .v (.func (.yield l) #[] #[])) (h1 : eget E.t 1 = .fp [.sc (.sl hdR) xs]) (h3 : eget E.t 3 = .sc (.i .i64) i) : BwHead l xs Rd i a := by
  have e0 := hg.tr 0
  have e1 := hg.tr 1
  have e3 := hg.tr 3
  rw [show (encE E).t = encT E.t from rfl, tget_enc] at e0 e1 e3
  rw [h0] at e0
  rw [h1] at e1
  rw [h3] at e3
  refine ⟨hg.d, hg.n.1.trans hn, e0.v_inv, ?_, e3.v_inv⟩
  have e2 := e1.none_of_fz rfl
  rw [show (encE E).h = [] by rw [show (encE E).h = encH E.h from rfl, hh]; rfl] at e2
  exact e2.mono fun b o u hr => (bw_rd.1 hr).2
end
/-- the place and the handle that stands there, aS the iterator hands them out -/
def bwV (q : Int × (Int × Int)) : Array Value := #[.int .i64 q.1, .agg #[.int .i64 q.2.1, .int .i64 q.2.2]]
theorem bwI_get {α : Type} (xs : List α) (j : Nat) (hj : j < xs.length) : (bwI xs)[j]? = some (((xs.length - 1 - j : Nat) : Int), xs[xs.length - 1 - j]'(by omega)) := by
  have hl : ((List.range xs.length).zip xs).length = xs.length := by simp
  unfold bwI
  rw [List.getElem?_map, List.getElem?_reverse (by rw [hl]; exact hj), hl]
  rw [List.getElem?_eq_getElem (by rw [hl]; omega)]
  simp
theorem bw_lt : ∀ {n j : Nat}, j < n → n - 1 - j < n := fun {n j} h => by omega
theorem bw_loop {l : Nat} {xs : List hdR.Val} {Rd : Nat → Nat → Value → Prop} (hgt : ∀ b o u, GT b o u → Rd b o u) (hlen : xs.length ≤ maxLen) (J : Nat → World → Prop) (hCl : ∀ j W, J j W → ∀ b o u, Rd b o u → W.cell? ⟨b, o, none⟩ = some u)
    (hy : ∀ j W1 x, ((bwI xs).map bwV)[j]? = some x → J j W1 → YieldAt Fence.wide 0 Try.prog l x W1 fun e W' => e = .returned (.bool true) ∧ J (j + 1) W')
    (Q : Exit → Act → World → Prop) (hQ : ∀ a W, J xs.length W → a.defers = [] → Q (.exit 0) a W) :
    ∀ (m j : Nat) (a : Act) (W : World), j ≤ xs.length → xs.length - j < m → J j W → BwHead l xs Rd ((xs.length : Int) - 1 - j) a → Code.roundsIn Fence.wide 0 Try.prog (codeAt [1, 0, 0] (bodyOf Try.f69)) Q m a W
  | 0, j, a, W, h1, h2, h3, h4 => by omega
  | m + 1, j, a, W, hj, hm, hJ, hh => by
    have hw : ∀ x : Int, -9223372036854775808 ≤ x → x ≤ 9223372036854775807 → IntKind.wrap .i64 x = x := fun x h1 h2 => by simp [IntKind.wrap, IntKind.bits, IntKind.signed]; omega
    have hmx : (xs.length : Int) ≤ 9223372036854775807 := by unfold maxLen at hlen; omega
    obtain ⟨I, hI⟩ : ∃ I : Int, I = (xs.length : Int) - 1 - j := ⟨_, rfl⟩
    rw [← hI] at hh
    have hga := hh.ga (W := W) l xs hgt (hCl j W hJ)
    show Code.wpIn Fence.wide 0 Try.prog (.seq (.seq (.region _ (List.toArray _) false) (.cond (.tmp 8) .skip (.exit 0))) (.seq (.block 1 (.seq (.region _ (List.toArray _) false) (.cond (.tmp 18) .ret .skip))) (.region _ (List.toArray _) false))) _ a W
    refine wpIn_seq (wpIn_seq (wpIn_region_lit ?_))
    refine step_ex tOk (E := bwE l xs I) (c0 := .sc (.i .i64) I) rfl hga rfl (fun c h => by cases h) fun a1 h1 => ?_
    refine step_ex tOk (c0 := .sc .b (decide ((0 : Int) ≤ I))) rfl h1 rfl (fun c h => by cases h) fun a2 h2 => ?_
    refine wpListIn_nil ?_
    have hc8 : a2.eval (.tmp 8) = .bool (decide ((0 : Int) ≤ I)) := by
      have := h2.ev (.tmp 8)
      exact this.v_inv
    by_cases hlast : j = xs.length
    · subst hlast
      refine wpIn_cond_false (by rw [hc8]; congr 1; simp; omega) (wpIn_exit ?_)
      exact hQ _ _ hJ h2.d
    have hjl : j < xs.length := by omega
    refine wpIn_cond_true (by rw [hc8]; congr 1; simp; omega) (wpIn_skip ?_)
    refine wpIn_seq (wpIn_block (wpIn_seq (wpIn_region_lit ?_)))
    have hi : I = ((xs.length - 1 - j : Nat) : Int) := by omega
    have hnth : nthI xs I = some (xs[xs.length - 1 - j]'(bw_lt hjl)) := by
      rw [hi]; simp only [nthI, Int.natCast_nonneg, if_true, Int.toNat_natCast]
      exact List.getElem?_eq_getElem (by omega)
    obtain ⟨x, hx⟩ : ∃ x, x = xs[xs.length - 1 - j]'(bw_lt hjl) := ⟨_, rfl⟩
    rw [← hx] at hnth
    refine step_ex tOk (c0 := .v (.func (.yield l) #[] #[])) rfl h2 rfl (fun c h => by cases h) fun a3 h3 => ?_
    refine step_ex tOk (c0 := .sc (.i .i64) I) rfl h3 rfl (fun c h => by cases h) fun a4 h4 => ?_
    refine step_ex tOk (c0 := .sc (.sl hdR) xs) rfl h4 rfl (fun c h => by cases h) fun a5 h5 => ?_
    refine step_ex tOk (c0 := .sc (.i .i64) I) rfl h5 rfl (fun c h => by cases h) fun a6 h6 => ?_
    refine step_ex tOk (c0 := .fp (splitC hdR x)) (by show obind (nthI xs I) _ = _; rw [hnth]; rfl) h6 rfl (fun c h => by cases h) fun a7 h7 => ?_
    refine step_ex tOk (c0 := valE hdR x) rfl h7 rfl (fun c h => by cases h) fun a8 h8 => ?_
    -- yield
    refine wpListIn_plain rfl fun K hK => ?_
    have e11 : a8.eval (.tmp 11) = .func (.yield l) #[] #[] := (h8.ev (.tmp 11)).v_inv
    have e12 : a8.eval (.tmp 12) = .int .i64 I := (h8.ev (.tmp 12)).v_inv
    have e16 : a8.eval (.tmp 16) = .agg #[.int .i64 x.1, .int .i64 x.2] := by
      have := h8.ev (.tmp 16)
      obtain ⟨us, hus, hlr⟩ := (show VR _ _ (.ag [.v (.int .i64 x.1), .v (.int .i64 x.2)]) _ from this).ag_inv
      rw [hus]
      match us, hlr with
      | [u1, u2], hlr =>
        have q1 := (hlr.2 0 _ _ rfl rfl).v_inv
        have q2 := (hlr.2 1 _ _ rfl rfl).v_inv
        rw [q1, q2]
      | [], hlr => have := hlr.1; simp at this
      | [_], hlr => have := hlr.1; simp at this
      | _ :: _ :: _ :: _, hlr => have := hlr.1; simp at this
    have hxy : ((bwI xs).map bwV)[j]? = some (bwV (I, x)) := by
      rw [List.getElem?_map, bwI_get xs j hjl, hi, hx]; rfl
    obtain ⟨fn, tmps, assign, body, hrun, hround⟩ := hy j W _ hxy hJ
    refine ⟨fun f _ => trivial, ?_⟩
    rw [Oper.semAt_eq _ _ _ (fun c h => by cases h)]
    have hex : ∀ (o : Oper) (ts : Array TypeId), o.op = .call ⟨.value (.tmp 11), #[.tmp 12, .tmp 16], ts⟩ → (execOp a8.eval o).run Try.prog W = .ok (.round l fn tmps assign body) W := fun o ts ho => by
      unfold execOp
      rw [ho]
      simp [resolve, e11, e12, e16, Deferred.ofValue, invoke]
      exact hrun
    rw [hex _ _ rfl]
    refine ⟨(fun h => by cases h), hround.mono ?_⟩
    rintro e W' ⟨rfl, hJ'⟩
    refine hK _ _ ?_
    -- in the world behind the round
    have hh8 : BwHead l xs Rd I a8 := BwHead.of l xs h8 rfl rfl rfl rfl rfl
    have hh9 : BwHead l xs Rd I (a8.put (some 17) (.bool true)) := by
      refine ⟨hh8.d, by simpa [Act.put] using hh8.n, ?_, ?_, ?_⟩
      · have := hh8.y; simpa [Act.put, Array.getD_eq_getD_getElem?, Array.getElem?_setIfInBounds] using this
      · have := hh8.p; simpa [Act.put, Array.getD_eq_getD_getElem?, Array.getElem?_setIfInBounds] using this
      · have := hh8.i; simpa [Act.put, Array.getD_eq_getD_getElem?, Array.getElem?_setIfInBounds] using this
    have hg9 := hh9.ga (W := W') l xs hgt (hCl _ W' hJ')
    have hg10 : Ga (bwB W') Rd bwEnv (encE ⟨19, (17, .sc .b true) :: (bwE l xs I).t, []⟩) (a8.put (some 17) (.bool true)) W' := by
      have hg8 := hh8.ga (W := W') l xs hgt (hCl _ W' hJ')
      exact hg8.put (d := 17) (c := .v (.bool true)) (by show 17 < 19; omega) .v
    refine step_ex tOk (c0 := .sc .b false) rfl hg10 rfl (fun c h => by cases h) fun a11 h11 => ?_
    refine wpListIn_nil ?_
    refine wpIn_cond_false ((h11.ev (.tmp 18)).v_inv) (wpIn_skip ?_)
    refine wpIn_region_lit ?_
    refine step_ex tOk (c0 := .sc (.i .i64) I) rfl h11 rfl (fun c h => by cases h) fun a12 h12 => ?_
    refine step_ex tOk (c0 := .sc (.i .i64) (IntKind.wrap .i64 (I - 1))) rfl h12 rfl (fun c h => by cases h) fun a13 h13 => ?_
    refine step_ex tOk (c0 := .sc (.i .i64) (IntKind.wrap .i64 (I - 1))) rfl h13 rfl (fun c h => by cases h) fun a14 h14 => ?_
    refine wpListIn_nil ?_
    refine bw_loop hgt hlen J hCl hy Q hQ m (j + 1) a14 W' (by omega) (by omega) hJ' ?_
    have := BwHead.of l xs (i := IntKind.wrap .i64 (I - 1)) h14 rfl rfl rfl rfl rfl
    rw [hw (I - 1) (by omega) (by omega)] at this
    rw [show (xs.length : Int) - 1 - ((j + 1 : Nat) : Int) = I - 1 by omega]
    exact this
theorem bw_yields (l : Nat) (xs : List hdR.Val) {Rd : Nat → Nat → Value → Prop} (hgt : ∀ b o u, GT b o u → Rd b o u) {u : Value} (hu : VR Rd none (.fp [encS (.sl hdR) xs]) u) (J : Nat → World → Prop) (W : World) (hCl : ∀ j W, J j W → ∀ b o u, Rd b o u → W.cell? ⟨b, o, none⟩ = some u)
    (hy : ∀ j W1 x, ((bwI xs).map bwV)[j]? = some x → J j W1 → YieldAt Fence.wide 0 Try.prog l x W1 fun e W' => e = .returned (.bool true) ∧ J (j + 1) W') (hJ : J 0 W) :
    CallsIn Fence.wide 0 Try.prog 69 #[.func (.yield l) #[] #[], u] W fun e W' => (∃ v, e = .returned v) ∧ J xs.length W' := by
  have hlen : xs.length ≤ maxLen := by
    cases hu with
    | fp us hl hc ha =>
      match us, hl, hc with
      | [v], hl, hc =>
        obtain ⟨a, cap, vs, _, _, _, _, h1, h2, _⟩ := (hc 0 _ v rfl rfl).sl_inv
        rw [List.length_map] at h1
        omega
      | [], hl, _ => simp at hl
      | _ :: _ :: _, hl, _ => simp at hl
  have hmx : (xs.length : Int) ≤ 9223372036854775807 := by unfold maxLen at hlen; omega
  refine callsIn_of_wp Try.func69 rfl trivial ?_
  obtain ⟨a0, ha0⟩ : ∃ a0 : Act, a0 = { tmps := #[.func (.yield l) #[] #[], u] ++ Array.replicate (Try.f69.ntmps - (#[.func (.yield l) #[] #[], u] : Array Value).size) undef, defers := [] } := ⟨_, rfl⟩
  rw [← ha0]
  have hnt : Try.f69.ntmps = 19 := by kernel_rfl
  rw [hnt] at ha0
  have hg0 : Ga (bwB W) Rd bwEnv (encE ⟨19, [(0, .v (.func (.yield l) #[] #[])), (1, .fp [.sc (.sl hdR) xs])], []⟩) a0 W := by
    have hs : a0.tmps.size = 19 := by rw [ha0]; simp
    have hd : a0.defers = [] := by rw [ha0]
    have hy0 : a0.tmps.getD 0 undef = .func (.yield l) #[] #[] := by rw [ha0]; simp [Array.getD_eq_getD_getElem?, Array.getElem?_append]
    have hp0 : a0.tmps.getD 1 undef = u := by rw [ha0]; simp [Array.getD_eq_getD_getElem?, Array.getElem?_append]
    clear ha0
    refine ⟨⟨hs, (by show 19 ≤ 1000000; omega)⟩, hd, bw_sr hgt (hCl 0 W hJ), fun j => ?_⟩
    show VR _ _ (tget [(0, .v (.func (.yield l) #[] #[])), (1, .fp [encS (.sl hdR) xs])] j) _
    simp only [tget]
    split
    · rename_i hj; subst hj; rw [hy0]; exact .v
    · split
      · rename_i hj; subst hj; rw [hp0]; exact (hu.mono fun b o u hr => bw_rd.2 ⟨hCl 0 W hJ b o u hr, hr⟩).some_of_none
      · exact .un
  show Code.wpIn Fence.wide 0 Try.prog (.seq (.region _ (List.toArray _) false) (.block 0 (.loop _))) _ a0 W
  refine wpIn_seq (wpIn_region_lit ?_)
  refine step_ex tOk (c0 := .sc (.sl hdR) xs) rfl hg0 rfl (fun c h => by cases h) fun a1 h1 => ?_
  refine step_ex tOk (c0 := .sc (.i .i64) (xs.length : Int)) rfl h1 rfl (fun c h => by cases h) fun a2 h2 => ?_
  refine step_ex tOk (c0 := .sc (.i .i64) (IntKind.wrap .i64 ((xs.length : Int) - 1))) rfl h2 rfl (fun c h => by cases h) fun a3 h3 => ?_
  refine step_ex tOk (c0 := .sc (.i .i64) (IntKind.wrap .i64 ((xs.length : Int) - 1))) rfl h3 rfl (fun c h => by cases h) fun a4 h4 => ?_
  refine wpListIn_nil ?_
  have hh := BwHead.of l xs (i := IntKind.wrap .i64 ((xs.length : Int) - 1)) h4 rfl rfl rfl rfl rfl
  rw [show IntKind.wrap .i64 ((xs.length : Int) - 1) = (xs.length : Int) - 1 - ((0 : Nat) : Int) by simp [IntKind.wrap, IntKind.bits, IntKind.signed]; omega] at hh
  refine wpIn_block (wpIn_loop_rounds (xs.length + 1) ?_)
  refine bw_loop hgt hlen J hCl hy _ (fun a W hJ hd => ?_) (xs.length + 1) 0 a4 W (by omega) (by omega) hJ hh
  exact ⟨hd, _, results_none rfl _ _ _, ⟨_, rfl⟩, hJ⟩
theorem bwOk : BwOk Try.prog 69 := by
  refine ⟨⟨_, Try.func69, by kernel_rfl, by kernel_rfl⟩, fun Rd us xs hgt hl => ⟨(bwI xs).map bwV, by rw [List.length_map, bwI_len], fun j it x hi hx => ?_, fun l J W hCl _ hy hJ => ?_⟩⟩
  · rw [List.getElem?_map, hi] at hx
    cases hx
    refine LR.cons .v (LR.cons (show VR Rd none (.ag [.v (.int .i64 it.2.1), .v (.int .i64 it.2.2)]) (.agg #[.int .i64 it.2.1, .int .i64 it.2.2]) from .ag [.int .i64 it.2.1, .int .i64 it.2.2] rfl fun j c u h1 h2 => ?_) LR.nil)
    match j with
    | 0 => simp at h1 h2; subst h1; subst h2; exact .v
    | 1 => simp at h1 h2; subst h1; subst h2; exact .v
    | j + 2 => simp at h1
  · match us, hl with
    | [u], hl =>
      have := bw_yields l xs hgt (hl.2 0 _ u rfl rfl) J W hCl hy hJ
      rw [List.length_map, bwI_len]
      exact this
    | [], hl => have := hl.1; simp at this
    | _ :: _ :: _, hl => have := hl.1; simp at this
theorem bwAll : ∀ q ∈ bwTab, BwOk Try.prog q := fun q hq => by
  have : q = 69 := by simpa [bwTab] using hq
  subst this
  exact bwOk
end Go.Proofs.Ytdahghkmejnlgaa
end
section
set_option linter.unusedVariables false
set_option maxRecDepth 100000
namespace Go.Proofs.Ytdahghkmejnlgaa
open Go Go.RowKit
abbrev s0 : Sc := .i .u8
abbrev s1 : Sc := .i .i64
abbrev s2 : Sc := .sl s1
abbrev s3 : Sc := .sl s2
abbrev s4 : Sc := .pr s1 s1
abbrev s5 : Sc := .sl s4
abbrev s6 : Sc := .pr s4 s1
abbrev s7 : Sc := .pr s2 s3
abbrev s8 : Sc := .pr s1 s5
abbrev s9 : Sc := .sl s6
abbrev s10 : Sc := .pr s1 s8
abbrev s11 : Sc := .pr s2 s7
abbrev s12 : Sc := .sl s10
abbrev s13 : Sc := .sl s11
abbrev s14 : Sc := .pr s0 s11
abbrev s15 : Sc := .pr .b s14
abbrev s16 : Sc := .sl s15
noncomputable def ct_ref13_Place (N : Nat) : List Ctr := []
def i_ref13_Place_1 : PS := ⟨[(0, .h s2), (1, .h s1), (5, .h s1)], [], [s2, s1, s1]⟩
def o_ref13_Place_1 : List (Exit × PS) := [((.exit 0), ⟨[], [], []⟩), (.ret, ⟨[(4, .h s1)], [], [s1]⟩)]
def p_ref13_Place_1 : Pl := .z
noncomputable def l_ref13_Place_1 (N : Nat) : Nat → (List Int) × Int × Int → Option ((Unit) ⊕ (Int)) := loopF (exC T (ct_ref13_Place N) N (codeAt [1, 0, 1, 0, 0] (bodyOf Try.f78))) 19 i_ref13_Place_1 o_ref13_Place_1 p_ref13_Place_1
def p_ref13_Place : Pl := (.n .z (.n (.n .z (.n (.loop i_ref13_Place_1 o_ref13_Place_1 p_ref13_Place_1) .z)) .z))
def r_ref13_Place : PS := ⟨[(4, .h s1)], [], [s1]⟩
noncomputable def m_ref13_Place (N : Nat) : (List Int) × Int → Option (Int) := exF T ct_ref13_Place N (bodyOf Try.f78) 19 p_ref13_Place [.h s2, .h s1] [] [s2, s1] r_ref13_Place
noncomputable def c_ref13_Place (N : Nat) : Ctr := ⟨78, [.h s2, .h s1], [], [s2, s1], Tup r_ref13_Place.c, m_ref13_Place N, fun y _ k => k (resG T (mkPS 19 r_ref13_Place y) Try.f78.results.toList) (keepH' [] (mkPS 19 r_ref13_Place y).h), false, true⟩
theorem l_ref13_Place_1_s (N m : Nat) (l : (List Int)) (token : Int) (i : Int) : l_ref13_Place_1 N (m + 1) (l, token, i) = cond (decide (i < (((List.length l) : Nat) : Int)))
   (obind (nthI l i) fun z1 =>
    cond (decide (z1 = token))
     (some (.inr i))
     ((l_ref13_Place_1 N m (l, (token, (IntKind.wrap .i64 (i + (1 : Int))))))))
   (some (.inl ())) := by kernel_rfl
theorem m_ref13_Place_eq (N : Nat) (l : (List Int)) (token : Int) : m_ref13_Place (N + 1) (l, token) = obind (l_ref13_Place_1 N N (l, (token, (0 : Int)))) fun z1 =>
  (match z1 with
  | .inl zy2 => some (-(1 : Int))
  | .inr zy3 => some zy3) := by kernel_rfl
theorem c_ref13_Place_ok (N : Nat) : (c_ref13_Place N).ok Try.prog := exF_ok (T := T) (CT := ct_ref13_Place) (N := N) (fun M => ⟨tOk, ctAll_nil, mixed, bwAll⟩) Try.func78 (by kernel_rfl) (by kernel_rfl) p_ref13_Place _ _ [s2, s1] r_ref13_Place false true [] (by kernel_rfl) (fun y => by kernel_rfl) (fun _ => ⟨rfl, rfl⟩) (fun y => by kernel_rfl) (m_ref13_Place N) (fun x => by kernel_rfl)
noncomputable def ct_ref13_Right (N : Nat) : List Ctr := [c_ref13_Place N]
def i_ref13_Right_1 : PS := ⟨[(0, .h s2), (3, .h s1)], [], [s2, s1]⟩
def o_ref13_Right_1 : List (Exit × PS) := [((.exit 0), ⟨[], [], []⟩), (.ret, ⟨[(2, .h .b)], [], [.b]⟩)]
def p_ref13_Right_1 : Pl := .z
noncomputable def l_ref13_Right_1 (N : Nat) : Nat → (List Int) × Int → Option ((Unit) ⊕ (Bool)) := loopF (exC T (ct_ref13_Right N) N (codeAt [1, 1, 0, 1, 0, 0] (bodyOf Try.f57))) 36 i_ref13_Right_1 o_ref13_Right_1 p_ref13_Right_1
def p_ref13_Right : Pl := (.n .z (.n .z (.n (.n .z (.n (.loop i_ref13_Right_1 o_ref13_Right_1 p_ref13_Right_1) .z)) .z)))
def r_ref13_Right : PS := ⟨[(2, .h .b)], [], [.b]⟩
noncomputable def m_ref13_Right (N : Nat) : (List Int) → Option (Bool) := exF T ct_ref13_Right N (bodyOf Try.f57) 36 p_ref13_Right [.h s2] [] [s2] r_ref13_Right
noncomputable def c_ref13_Right (N : Nat) : Ctr := ⟨57, [.h s2], [], [s2], Tup r_ref13_Right.c, m_ref13_Right N, fun y _ k => k (resG T (mkPS 36 r_ref13_Right y) Try.f57.results.toList) (keepH' [] (mkPS 36 r_ref13_Right y).h), false, true⟩
theorem l_ref13_Right_1_s (N m : Nat) (l : (List Int)) (i : Int) : l_ref13_Right_1 N (m + 1) (l, i) = cond (decide (i < (((List.length l) : Nat) : Int)))
   (obind (nthI l i) fun z1 =>
    cond (decide (z1 < (0 : Int)))
     (some (.inr false))
     (obind (nthI l i) fun z2 =>
      cond (decide ((10000 : Int) < z2))
       (some (.inr false))
       (obind (subI l (0 : Int) i) fun z3 =>
        obind (nthI l i) fun z4 =>
        obind (m_ref13_Place N (z3, z4)) fun z5 =>
        cond (decide ((0 : Int) ≤ z5))
         (some (.inr false))
         ((l_ref13_Right_1 N m (l, (IntKind.wrap .i64 (i + (1 : Int)))))))))
   (some (.inl ())) := by kernel_rfl
theorem m_ref13_Right_eq (N : Nat) (l : (List Int)) : m_ref13_Right (N + 1) (l) = cond (decide ((1000 : Int) < (((List.length l) : Nat) : Int)))
   (some false)
   (obind (l_ref13_Right_1 N N (l, (0 : Int))) fun z1 =>
    (match z1 with
    | .inl zy2 => some true
    | .inr zy3 => some zy3)) := by kernel_rfl
theorem c_ref13_Right_ok (N : Nat) : (c_ref13_Right N).ok Try.prog := exF_ok (T := T) (CT := ct_ref13_Right) (N := N) (fun M => ⟨tOk, (ctAll_cons (c_ref13_Place_ok M) ctAll_nil), mixed, bwAll⟩) Try.func57 (by kernel_rfl) (by kernel_rfl) p_ref13_Right _ _ [s2] r_ref13_Right false true [] (by kernel_rfl) (fun y => by kernel_rfl) (fun _ => ⟨rfl, rfl⟩) (fun y => by kernel_rfl) (m_ref13_Right N) (fun x => by kernel_rfl)
noncomputable def ct_ref14_Build (N : Nat) : List Ctr := [c_ref13_Right N]
def i_ref14_Build_4 : PS := ⟨[(1, .h s2), (4, .k (.pt 900 0)), (6, .h s1), (8, .k (.pt 901 0)), (9, .h s1), (10, .k (.ow 904)), (11, .h s1), (12, .h s1)], [(900, .box 35 [.k .nil, .k .nil, .k .nil]), (901, .box 35 [.k (.ow 902), .k (.ow 903), .k (.ow 905)]), (904, .arr 3 s1 true), (902, .arr 3 s1 true), (903, .arr 3 s1 true), (905, .arr 22 s2 true)], [s2, s1, s1, s1, s1, s2, s2, s2, s3]⟩
def o_ref14_Build_4 : List (Exit × PS) := [((.exit 6), ⟨[(1, .h s2), (4, .k (.pt 900 0)), (6, .h s1), (8, .k (.pt 901 0)), (9, .h s1), (10, .k (.ow 902)), (11, .h s1), (12, .h s1)], [(900, .box 35 [.k .nil, .k .nil, .k .nil]), (901, .box 35 [.k (.ow 903), .k (.ow 904), .k (.ow 905)]), (902, .arr 3 s1 true), (903, .arr 3 s1 true), (904, .arr 3 s1 true), (905, .arr 22 s2 true)], [s2, s1, s1, s1, s1, s2, s2, s2, s3]⟩)]
def p_ref14_Build_4 : Pl := .z
noncomputable def l_ref14_Build_4 (N : Nat) : Nat → (List Int) × Int × Int × Int × Int × (List Int) × (List Int) × (List Int) × (List (List Int)) → Option ((List Int) × Int × Int × Int × Int × (List Int) × (List Int) × (List Int) × (List (List Int))) := loopF (exC T (ct_ref14_Build N) N (codeAt [1, 1, 1, 1, 1, 0, 1, 0, 0, 1, 0, 0, 1, 0, 1, 0, 0, 1, 0, 0, 1, 0, 0, 0] (bodyOf Try.f25))) 94 i_ref14_Build_4 o_ref14_Build_4 p_ref14_Build_4
def i_ref14_Build_3 : PS := ⟨[(1, .h s2), (4, .k (.pt 900 0)), (6, .h s1), (8, .k (.pt 901 0)), (9, .h s1), (10, .k (.ow 904)), (11, .h s1)], [(900, .box 35 [.k .nil, .k .nil, .k .nil]), (901, .box 35 [.k (.ow 902), .k (.ow 903), .k (.ow 905)]), (904, .arr 3 s1 true), (902, .arr 3 s1 true), (903, .arr 3 s1 true), (905, .arr 22 s2 true)], [s2, s1, s1, s1, s2, s2, s2, s3]⟩
def o_ref14_Build_3 : List (Exit × PS) := [((.exit 4), ⟨[(1, .h s2), (4, .k (.pt 900 0)), (6, .h s1), (8, .k (.pt 901 0)), (9, .h s1), (10, .k (.ow 902))], [(900, .box 35 [.k .nil, .k .nil, .k .nil]), (901, .box 35 [.k (.ow 903), .k (.ow 904), .k (.ow 905)]), (902, .arr 3 s1 true), (903, .arr 3 s1 true), (904, .arr 3 s1 true), (905, .arr 22 s2 true)], [s2, s1, s1, s2, s2, s2, s3]⟩)]
def p_ref14_Build_3 : Pl := (.n .z (.n (.n (.n .z (.n (.n (.loop i_ref14_Build_4 o_ref14_Build_4 p_ref14_Build_4) .z) .z)) .z) .z))
noncomputable def l_ref14_Build_3 (N : Nat) : Nat → (List Int) × Int × Int × Int × (List Int) × (List Int) × (List Int) × (List (List Int)) → Option ((List Int) × Int × Int × (List Int) × (List Int) × (List Int) × (List (List Int))) := loopF (exC T (ct_ref14_Build N) N (codeAt [1, 1, 1, 1, 1, 0, 1, 0, 0, 1, 0, 0, 1, 0, 1, 0, 0] (bodyOf Try.f25))) 94 i_ref14_Build_3 o_ref14_Build_3 p_ref14_Build_3
def i_ref14_Build_2 : PS := ⟨[(1, .h s2), (4, .k (.pt 900 0)), (6, .h s1), (8, .k (.pt 901 0)), (9, .h s1)], [(900, .box 35 [.k .nil, .k .nil, .k .nil]), (901, .box 35 [.k (.ow 902), .k (.ow 903), .k (.ow 904)]), (902, .arr 3 s1 true), (903, .arr 3 s1 true), (904, .arr 22 s2 true)], [s2, s1, s1, s2, s2, s3]⟩
def o_ref14_Build_2 : List (Exit × PS) := [((.exit 2), ⟨[(4, .k (.pt 900 0)), (8, .k (.pt 901 0))], [(900, .box 35 [.k .nil, .k .nil, .k .nil]), (901, .box 35 [.k (.ow 902), .k (.ow 903), .k (.ow 904)]), (902, .arr 3 s1 true), (903, .arr 3 s1 true), (904, .arr 22 s2 true)], [s2, s2, s3]⟩)]
def p_ref14_Build_2 : Pl := (.n .z (.n (.n (.n .z (.n (.n .z (.n (.loop i_ref14_Build_3 o_ref14_Build_3 p_ref14_Build_3) .z)) .z)) .z) .z))
noncomputable def l_ref14_Build_2 (N : Nat) : Nat → (List Int) × Int × Int × (List Int) × (List Int) × (List (List Int)) → Option ((List Int) × (List Int) × (List (List Int))) := loopF (exC T (ct_ref14_Build N) N (codeAt [1, 1, 1, 1, 1, 0, 1, 0, 0] (bodyOf Try.f25))) 94 i_ref14_Build_2 o_ref14_Build_2 p_ref14_Build_2
def i_ref14_Build_1 : PS := ⟨[(0, .h s2), (1, .h s2), (4, .k (.pt 900 0)), (6, .h s1), (7, .h s1)], [(900, .box 35 [.k .nil, .k .nil, .k .nil])], [s2, s2, s1, s1]⟩
def o_ref14_Build_1 : List (Exit × PS) := [((.exit 0), ⟨[(0, .h s2), (1, .h s2), (4, .k (.pt 900 0)), (6, .h s1)], [(900, .box 35 [.k .nil, .k .nil, .k .nil])], [s2, s2, s1]⟩), (.ret, ⟨[(4, .k (.pt 900 0)), (5, .h s1)], [(900, .box 35 [.k .nil, .k .nil, .k .nil])], [s1]⟩)]
def p_ref14_Build_1 : Pl := .z
noncomputable def l_ref14_Build_1 (N : Nat) : Nat → (List Int) × (List Int) × Int × Int → Option (((List Int) × (List Int) × Int) ⊕ (Int)) := loopF (exC T (ct_ref14_Build N) N (codeAt [1, 1, 1, 0, 1, 0, 0] (bodyOf Try.f25))) 94 i_ref14_Build_1 o_ref14_Build_1 p_ref14_Build_1
def p_ref14_Build : Pl := (.n .z (.n .z (.n .z (.n (.n .z (.n (.loop i_ref14_Build_1 o_ref14_Build_1 p_ref14_Build_1) .z)) (.n .z (.n (.n .z (.n (.loop i_ref14_Build_2 o_ref14_Build_2 p_ref14_Build_2) .z)) .z))))))
def r_ref14_Build : PS := ⟨[(4, .k (.pt 900 0)), (5, .h s1)], [(900, .box 35 [.h s2, .h s2, .h s3])], [s1, s2, s2, s3]⟩
noncomputable def m_ref14_Build (N : Nat) : (List Int) × (List Int) → Option (Int × (List Int) × (List Int) × (List (List Int))) := exF T ct_ref14_Build N (bodyOf Try.f25) 94 p_ref14_Build [.h s2, .h s2] [] [s2, s2] r_ref14_Build
noncomputable def c_ref14_Build (N : Nat) : Ctr := ⟨25, [.h s2, .h s2], [], [s2, s2], Tup r_ref14_Build.c, m_ref14_Build N, fun y _ k => k (resG T (mkPS 94 r_ref14_Build y) Try.f25.results.toList) (keepH' [] (mkPS 94 r_ref14_Build y).h), false, false⟩
theorem l_ref14_Build_4_s (N m : Nat) (heights : (List Int)) (n : Int) (i : Int) (h : Int) (k : Int) (l : (List Int)) (v902 : (List Int)) (v903 : (List Int)) (v905 : (List (List Int))) : l_ref14_Build_4 N (m + 1) (heights, n, i, h, k, l, v902, v903, v905) = obind (remI (IntKind.wrap .i64 (i + k)) n) fun z1 =>
  obind (nthI heights z1) fun z2 =>
  cond (decide (z2 ≤ h))
   ((l_ref14_Build_4 N m (heights, (n, (i, (h, ((IntKind.wrap .i64 (k + (1 : Int))), (l, (v902, (v903, v905))))))))))
   (some (heights, (n, (i, (h, (k, (l, (v902, (v903, v905))))))))) := by kernel_rfl
theorem l_ref14_Build_3_s (N m : Nat) (heights : (List Int)) (n : Int) (i : Int) (h : Int) (l : (List Int)) (v902 : (List Int)) (v903 : (List Int)) (v905 : (List (List Int))) : l_ref14_Build_3 N (m + 1) (heights, n, i, h, l, v902, v903, v905) = obind (nthI heights i) fun z1 =>
  cond (decide (h < z1))
   (obind (l_ref14_Build_4 N N (heights, (n, (i, (h, ((1 : Int), (l, (v902, (v903, v905))))))))) fun z2 =>
    obind (remI (IntKind.wrap .i64 (z2.2.2.1 + z2.2.2.2.2.1)) z2.2.1) fun z3 =>
    obind (appI (8 : Nat) z2.2.2.2.2.2.1 [z3]) fun z4 =>
    (l_ref14_Build_3 N m (z2.1, (z2.2.1, (z2.2.2.1, ((IntKind.wrap .i64 (z2.2.2.2.1 + (1 : Int))), (z4, (z2.2.2.2.2.2.2.1, (z2.2.2.2.2.2.2.2.1, z2.2.2.2.2.2.2.2.2)))))))))
   (some (heights, (n, (i, (l, (v902, (v903, v905))))))) := by kernel_rfl
theorem l_ref14_Build_2_s (N m : Nat) (heights : (List Int)) (n : Int) (i : Int) (v902 : (List Int)) (v903 : (List Int)) (v904 : (List (List Int))) : l_ref14_Build_2 N (m + 1) (heights, n, i, v902, v903, v904) = cond (decide (i < n))
   (obind (l_ref14_Build_3 N N (heights, (n, (i, ((0 : Int), ([], (v902, (v903, v904)))))))) fun z1 =>
    obind (appI (24 : Nat) z1.2.2.2.2.2.2 [z1.2.2.2.1]) fun z2 =>
    (l_ref14_Build_2 N m (z1.1, (z1.2.1, ((IntKind.wrap .i64 (z1.2.2.1 + (1 : Int))), (z1.2.2.2.2.1, (z1.2.2.2.2.2.1, z2)))))))
   (some (v902, (v903, v904))) := by kernel_rfl
theorem l_ref14_Build_1_s (N m : Nat) (tokens : (List Int)) (heights : (List Int)) (n : Int) (i : Int) : l_ref14_Build_1 N (m + 1) (tokens, heights, n, i) = cond (decide (i < n))
   (obind (nthI heights i) fun z1 =>
    cond (decide (z1 < (1 : Int)))
     (some (.inr (1 : Int)))
     (obind (nthI heights i) fun z2 =>
      cond (decide ((8 : Int) < z2))
       (some (.inr (1 : Int)))
       ((l_ref14_Build_1 N m (tokens, (heights, (n, (IntKind.wrap .i64 (i + (1 : Int))))))))))
   (some (.inl (tokens, (heights, n)))) := by kernel_rfl
theorem m_ref14_Build_eq (N : Nat) (tokens : (List Int)) (heights : (List Int)) : m_ref14_Build (N + 1) (tokens, heights) = obind (m_ref13_Right N tokens) fun z1 =>
  cond (!z1)
   (some ((1 : Int), ([], ([], []))))
   (cond (decide ((((List.length tokens) : Nat) : Int) = (0 : Int)))
     (some ((1 : Int), ([], ([], []))))
     (cond (!(decide ((((List.length heights) : Nat) : Int) = (((List.length tokens) : Nat) : Int))))
       (some ((1 : Int), ([], ([], []))))
       (obind (l_ref14_Build_1 N N (tokens, (heights, ((((List.length tokens) : Nat) : Int), (0 : Int))))) fun z2 =>
        (match z2 with
        | .inl zy3 => obind (appI (8 : Nat) [] zy3.1) fun z4 =>
          obind (appI (8 : Nat) [] zy3.2.1) fun z5 =>
          obind (l_ref14_Build_2 N N (zy3.2.1, (zy3.2.2, ((0 : Int), (z4, (z5, [])))))) fun z6 =>
          some ((0 : Int), (z6.1, (z6.2.1, z6.2.2)))
        | .inr zy7 => some (zy7, ([], ([], []))))))) := by kernel_rfl
theorem c_ref14_Build_ok (N : Nat) : (c_ref14_Build N).ok Try.prog := exF_ok (T := T) (CT := ct_ref14_Build) (N := N) (fun M => ⟨tOk, (ctAll_cons (c_ref13_Right_ok M) ctAll_nil), mixed, bwAll⟩) Try.func25 (by kernel_rfl) (by kernel_rfl) p_ref14_Build _ _ [s2, s2] r_ref14_Build false false [] (by kernel_rfl) (fun y => by kernel_rfl) (fun _ => ⟨rfl, rfl⟩) (fun y => by kernel_rfl) (m_ref14_Build N) (fun x => by kernel_rfl)
noncomputable def ct_pool_Make (N : Nat) : List Ctr := []
def i_pool_Make_1 : PS := ⟨[(0, .h s1), (2, .k (.pt 900 0)), (4, .k (.pt 901 0)), (16, .h s1), (17, .h s1)], [(900, .box 24 [.k .nil, .k .nil]), (901, .box 24 [.k (.ow 902), .k (.ow 903)]), (902, .arr 3 s1 true), (903, .arr 3 s1 true)], [s1, s1, s1, s2, s2]⟩
def o_pool_Make_1 : List (Exit × PS) := [((.exit 0), ⟨[(2, .k (.pt 900 0)), (4, .k (.pt 901 0))], [(900, .box 24 [.k .nil, .k .nil]), (901, .box 24 [.k (.ow 902), .k (.ow 903)]), (902, .arr 3 s1 true), (903, .arr 3 s1 true)], [s2, s2]⟩)]
def p_pool_Make_1 : Pl := .z
noncomputable def l_pool_Make_1 (N : Nat) : Nat → Int × Int × Int × (List Int) × (List Int) → Option ((List Int) × (List Int)) := loopF (exC T (ct_pool_Make N) N (codeAt [1, 1, 1, 0, 1, 0, 0] (bodyOf Try.f55))) 31 i_pool_Make_1 o_pool_Make_1 p_pool_Make_1
def p_pool_Make : Pl := (.n .z (.n .z (.n .z (.n (.n .z (.n (.loop i_pool_Make_1 o_pool_Make_1 p_pool_Make_1) .z)) .z))))
def r_pool_Make : PS := ⟨[(2, .k (.pt 900 0)), (3, .h s1)], [(900, .box 24 [.h s2, .h s2])], [s1, s2, s2]⟩
noncomputable def m_pool_Make (N : Nat) : Int → Option (Int × (List Int) × (List Int)) := exF T ct_pool_Make N (bodyOf Try.f55) 31 p_pool_Make [.h s1] [] [s1] r_pool_Make
noncomputable def c_pool_Make (N : Nat) : Ctr := ⟨55, [.h s1], [], [s1], Tup r_pool_Make.c, m_pool_Make N, fun y _ k => k (resG T (mkPS 31 r_pool_Make y) Try.f55.results.toList) (keepH' [] (mkPS 31 r_pool_Make y).h), false, false⟩
theorem l_pool_Make_1_s (N m : Nat) (n : Int) (v16 : Int) (v17 : Int) (v902 : (List Int)) (v903 : (List Int)) : l_pool_Make_1 N (m + 1) (n, v16, v17, v902, v903) = cond (decide (v17 < v16))
   (obind (appI (8 : Nat) v903 [(IntKind.wrap .i64 ((IntKind.wrap .i64 (n - (1 : Int))) - v17))]) fun z1 =>
    (l_pool_Make_1 N m (n, (v16, ((IntKind.wrap .i64 (v17 + (1 : Int))), (v902, z1))))))
   (some (v902, v903)) := by kernel_rfl
theorem m_pool_Make_eq (N : Nat) (n : Int) : m_pool_Make (N + 1) (n) = cond (decide (n < (1 : Int)))
   (some ((1 : Int), ([], [])))
   (cond (decide ((1000 : Int) < n))
     (some ((1 : Int), ([], [])))
     (obind (makI n (8 : Nat)) fun z1 =>
      obind (l_pool_Make_1 N N (n, (n, ((0 : Int), ((List.replicate z1 (0 : Int)), []))))) fun z2 =>
      some ((0 : Int), (z2.1, z2.2)))) := by kernel_rfl
theorem c_pool_Make_ok (N : Nat) : (c_pool_Make N).ok Try.prog := exF_ok (T := T) (CT := ct_pool_Make) (N := N) (fun M => ⟨tOk, ctAll_nil, mixed, bwAll⟩) Try.func55 (by kernel_rfl) (by kernel_rfl) p_pool_Make _ _ [s1] r_pool_Make false false [] (by kernel_rfl) (fun y => by kernel_rfl) (fun _ => ⟨rfl, rfl⟩) (fun y => by kernel_rfl) (m_pool_Make N) (fun x => by kernel_rfl)
noncomputable def ct_store_Make (N : Nat) : List Ctr := [c_pool_Make N]
def p_store_Make : Pl := .z
def r_store_Make : PS := ⟨[(2, .k (.pt 900 0)), (3, .h s1)], [(900, .box 27 [.h s2, .h s2, .h s12])], [s1, s2, s2, s12]⟩
noncomputable def m_store_Make (N : Nat) : Int → Option (Int × (List Int) × (List Int) × (List (Int × (Int × (List (Int × Int)))))) := exF T ct_store_Make N (bodyOf Try.f23) 19 p_store_Make [.h s1] [] [s1] r_store_Make
noncomputable def c_store_Make (N : Nat) : Ctr := ⟨23, [.h s1], [], [s1], Tup r_store_Make.c, m_store_Make N, fun y _ k => k (resG T (mkPS 19 r_store_Make y) Try.f23.results.toList) (keepH' [] (mkPS 19 r_store_Make y).h), false, false⟩
theorem m_store_Make_eq (N : Nat) (n : Int) : m_store_Make (N + 1) (n) = obind (m_pool_Make N n) fun z1 =>
  cond (!(decide (z1.1 = (0 : Int))))
   (some (z1.1, ([], ([], []))))
   (obind (makI n (40 : Nat)) fun z2 =>
    some ((0 : Int), (z1.2.1, (z1.2.2, (List.replicate z2 ((0 : Int), ((0 : Int), []))))))) := by kernel_rfl
theorem c_store_Make_ok (N : Nat) : (c_store_Make N).ok Try.prog := exF_ok (T := T) (CT := ct_store_Make) (N := N) (fun M => ⟨tOk, (ctAll_cons (c_pool_Make_ok M) ctAll_nil), mixed, bwAll⟩) Try.func23 (by kernel_rfl) (by kernel_rfl) p_store_Make _ _ [s1] r_store_Make false false [] (by kernel_rfl) (fun y => by kernel_rfl) (fun _ => ⟨rfl, rfl⟩) (fun y => by kernel_rfl) (m_store_Make N) (fun x => by kernel_rfl)
noncomputable def ct_slices_Min_Lint_int (N : Nat) : List Ctr := []
def i_slices_Min_Lint_int_1 : PS := ⟨[(0, .h s2), (3, .h s1), (4, .h s1)], [], [s2, s1, s1]⟩
def o_slices_Min_Lint_int_1 : List (Exit × PS) := [((.exit 0), ⟨[(3, .h s1)], [], [s1]⟩)]
def p_slices_Min_Lint_int_1 : Pl := .z
noncomputable def l_slices_Min_Lint_int_1 (N : Nat) : Nat → (List Int) × Int × Int → Option (Int) := loopF (exC T (ct_slices_Min_Lint_int N) N (codeAt [1, 1, 1, 0, 1, 0, 0] (bodyOf Try.f71))) 25 i_slices_Min_Lint_int_1 o_slices_Min_Lint_int_1 p_slices_Min_Lint_int_1
def p_slices_Min_Lint_int : Pl := (.n .z (.n .z (.n .z (.n (.n .z (.n (.loop i_slices_Min_Lint_int_1 o_slices_Min_Lint_int_1 p_slices_Min_Lint_int_1) .z)) .z))))
def r_slices_Min_Lint_int : PS := ⟨[(2, .h s1)], [], [s1]⟩
noncomputable def m_slices_Min_Lint_int (N : Nat) : (List Int) → Option (Int) := exF T ct_slices_Min_Lint_int N (bodyOf Try.f71) 25 p_slices_Min_Lint_int [.h s2] [] [s2] r_slices_Min_Lint_int
noncomputable def c_slices_Min_Lint_int (N : Nat) : Ctr := ⟨71, [.h s2], [], [s2], Tup r_slices_Min_Lint_int.c, m_slices_Min_Lint_int N, fun y _ k => k (resG T (mkPS 25 r_slices_Min_Lint_int y) Try.f71.results.toList) (keepH' [] (mkPS 25 r_slices_Min_Lint_int y).h), false, true⟩
theorem l_slices_Min_Lint_int_1_s (N m : Nat) (x : (List Int)) (v3 : Int) (i : Int) : l_slices_Min_Lint_int_1 N (m + 1) (x, v3, i) = cond (decide (i < (((List.length x) : Nat) : Int)))
   (obind (nthI x i) fun z1 =>
    (l_slices_Min_Lint_int_1 N m (x, ((if (z1 < v3) then z1 else v3), (IntKind.wrap .i64 (i + (1 : Int)))))))
   (some v3) := by kernel_rfl
theorem m_slices_Min_Lint_int_eq (N : Nat) (x : (List Int)) : m_slices_Min_Lint_int (N + 1) (x) = cond (decide ((((List.length x) : Nat) : Int) < (1 : Int)))
   (none)
   (obind (nthI x (0 : Int)) fun z1 =>
    obind (l_slices_Min_Lint_int_1 N N (x, (z1, (1 : Int)))) fun z2 =>
    some z2) := by kernel_rfl
theorem c_slices_Min_Lint_int_ok (N : Nat) : (c_slices_Min_Lint_int N).ok Try.prog := exF_ok (T := T) (CT := ct_slices_Min_Lint_int) (N := N) (fun M => ⟨tOk, ctAll_nil, mixed, bwAll⟩) Try.func71 (by kernel_rfl) (by kernel_rfl) p_slices_Min_Lint_int _ _ [s2] r_slices_Min_Lint_int false true [] (by kernel_rfl) (fun y => by kernel_rfl) (fun _ => ⟨rfl, rfl⟩) (fun y => by kernel_rfl) (m_slices_Min_Lint_int N) (fun x => by kernel_rfl)
noncomputable def ct_slices_Max_Lint_int (N : Nat) : List Ctr := []
def i_slices_Max_Lint_int_1 : PS := ⟨[(0, .h s2), (3, .h s1), (4, .h s1)], [], [s2, s1, s1]⟩
def o_slices_Max_Lint_int_1 : List (Exit × PS) := [((.exit 0), ⟨[(3, .h s1)], [], [s1]⟩)]
def p_slices_Max_Lint_int_1 : Pl := .z
noncomputable def l_slices_Max_Lint_int_1 (N : Nat) : Nat → (List Int) × Int × Int → Option (Int) := loopF (exC T (ct_slices_Max_Lint_int N) N (codeAt [1, 1, 1, 0, 1, 0, 0] (bodyOf Try.f72))) 25 i_slices_Max_Lint_int_1 o_slices_Max_Lint_int_1 p_slices_Max_Lint_int_1
def p_slices_Max_Lint_int : Pl := (.n .z (.n .z (.n .z (.n (.n .z (.n (.loop i_slices_Max_Lint_int_1 o_slices_Max_Lint_int_1 p_slices_Max_Lint_int_1) .z)) .z))))
def r_slices_Max_Lint_int : PS := ⟨[(2, .h s1)], [], [s1]⟩
noncomputable def m_slices_Max_Lint_int (N : Nat) : (List Int) → Option (Int) := exF T ct_slices_Max_Lint_int N (bodyOf Try.f72) 25 p_slices_Max_Lint_int [.h s2] [] [s2] r_slices_Max_Lint_int
noncomputable def c_slices_Max_Lint_int (N : Nat) : Ctr := ⟨72, [.h s2], [], [s2], Tup r_slices_Max_Lint_int.c, m_slices_Max_Lint_int N, fun y _ k => k (resG T (mkPS 25 r_slices_Max_Lint_int y) Try.f72.results.toList) (keepH' [] (mkPS 25 r_slices_Max_Lint_int y).h), false, true⟩
theorem l_slices_Max_Lint_int_1_s (N m : Nat) (x : (List Int)) (v3 : Int) (i : Int) : l_slices_Max_Lint_int_1 N (m + 1) (x, v3, i) = cond (decide (i < (((List.length x) : Nat) : Int)))
   (obind (nthI x i) fun z1 =>
    (l_slices_Max_Lint_int_1 N m (x, ((if (z1 > v3) then z1 else v3), (IntKind.wrap .i64 (i + (1 : Int)))))))
   (some v3) := by kernel_rfl
theorem m_slices_Max_Lint_int_eq (N : Nat) (x : (List Int)) : m_slices_Max_Lint_int (N + 1) (x) = cond (decide ((((List.length x) : Nat) : Int) < (1 : Int)))
   (none)
   (obind (nthI x (0 : Int)) fun z1 =>
    obind (l_slices_Max_Lint_int_1 N N (x, (z1, (1 : Int)))) fun z2 =>
    some z2) := by kernel_rfl
theorem c_slices_Max_Lint_int_ok (N : Nat) : (c_slices_Max_Lint_int N).ok Try.prog := exF_ok (T := T) (CT := ct_slices_Max_Lint_int) (N := N) (fun M => ⟨tOk, ctAll_nil, mixed, bwAll⟩) Try.func72 (by kernel_rfl) (by kernel_rfl) p_slices_Max_Lint_int _ _ [s2] r_slices_Max_Lint_int false true [] (by kernel_rfl) (fun y => by kernel_rfl) (fun _ => ⟨rfl, rfl⟩) (fun y => by kernel_rfl) (m_slices_Max_Lint_int N) (fun x => by kernel_rfl)
noncomputable def ct_pool_Right (N : Nat) : List Ctr := [c_slices_Min_Lint_int N, c_slices_Max_Lint_int N]
def i_pool_Right_1 : PS := ⟨[(3, .h s1), (4, .k (.mp 900)), (30, .h s2), (31, .h s1), (32, .h s1)], [(900, .mp (.int .i64) s1 s1)], [s1, s2, s1, s1, s5]⟩
def o_pool_Right_1 : List (Exit × PS) := [((.exit 0), ⟨[], [], []⟩), (.ret, ⟨[(2, .h .b)], [], [.b]⟩)]
def p_pool_Right_1 : Pl := .z
noncomputable def l_pool_Right_1 (N : Nat) : Nat → Int × (List Int) × Int × Int × (List (Int × Int)) → Option ((Unit) ⊕ (Bool)) := loopF (exC T (ct_pool_Right N) N (codeAt [1, 1, 1, 1, 0, 1, 0, 0] (bodyOf Try.f46))) 54 i_pool_Right_1 o_pool_Right_1 p_pool_Right_1
def p_pool_Right : Pl := (.n .z (.n .z (.n .z (.n .z (.n (.n .z (.n (.loop i_pool_Right_1 o_pool_Right_1 p_pool_Right_1) .z)) .z)))))
def r_pool_Right : PS := ⟨[(2, .h .b)], [], [.b]⟩
noncomputable def m_pool_Right (N : Nat) : (List Int) × (List Int) → Option (Bool) := exF T ct_pool_Right N (bodyOf Try.f46) 54 p_pool_Right [.ag [.h s2, .h s2]] [] [s2, s2] r_pool_Right
noncomputable def c_pool_Right (N : Nat) : Ctr := ⟨46, [.ag [.h s2, .h s2]], [], [s2, s2], Tup r_pool_Right.c, m_pool_Right N, fun y _ k => k (resG T (mkPS 54 r_pool_Right y) Try.f46.results.toList) (keepH' [] (mkPS 54 r_pool_Right y).h), false, true⟩
theorem l_pool_Right_1_s (N m : Nat) (n : Int) (v30 : (List Int)) (v31 : Int) (v32 : Int) (met : (List (Int × Int))) : l_pool_Right_1 N (m + 1) (n, v30, v31, v32, met) = cond (decide (v32 < v31))
   (obind (nthI v30 v32) fun z1 =>
    cond (decide (z1 < (0 : Int)))
     (some (.inr false))
     (cond (decide (n ≤ z1))
       (some (.inr false))
       (cond (decide ((1 : Int) < (Option.getD (mget (.i .i64) (mput (.i .i64) met z1 (IntKind.wrap .i64 ((Option.getD (mget (.i .i64) met z1) (0 : Int)) + (1 : Int)))) z1) (0 : Int))))
         (some (.inr false))
         ((l_pool_Right_1 N m (n, (v30, (v31, ((IntKind.wrap .i64 (v32 + (1 : Int))), (mput (.i .i64) met z1 (IntKind.wrap .i64 ((Option.getD (mget (.i .i64) met z1) (0 : Int)) + (1 : Int)))))))))))))
   (some (.inl ())) := by kernel_rfl
theorem m_pool_Right_eq (N : Nat) (p : (List Int)) (p2 : (List Int)) : m_pool_Right (N + 1) (p, p2) = cond (decide ((((List.length p) : Nat) : Int) = (0 : Int)))
   (some false)
   (cond (decide ((1000 : Int) < (((List.length p) : Nat) : Int)))
     (some false)
     (obind (m_slices_Min_Lint_int N p) fun z1 =>
      cond (decide (z1 < (0 : Int)))
       (some false)
       (obind (m_slices_Max_Lint_int N p) fun z2 =>
        cond (decide ((1073741824 : Int) < z2))
         (some false)
         (obind (l_pool_Right_1 N N ((((List.length p) : Nat) : Int), (p2, ((((List.length p2) : Nat) : Int), ((0 : Int), []))))) fun z3 =>
          (match z3 with
          | .inl zy4 => some true
          | .inr zy5 => some zy5))))) := by kernel_rfl
theorem c_pool_Right_ok (N : Nat) : (c_pool_Right N).ok Try.prog := exF_ok (T := T) (CT := ct_pool_Right) (N := N) (fun M => ⟨tOk, (ctAll_cons (c_slices_Min_Lint_int_ok M) (ctAll_cons (c_slices_Max_Lint_int_ok M) ctAll_nil)), mixed, bwAll⟩) Try.func46 (by kernel_rfl) (by kernel_rfl) p_pool_Right _ _ [s2, s2] r_pool_Right false true [] (by kernel_rfl) (fun y => by kernel_rfl) (fun _ => ⟨rfl, rfl⟩) (fun y => by kernel_rfl) (m_pool_Right N) (fun x => by kernel_rfl)
noncomputable def ct_slices_Index_Lint_int (N : Nat) : List Ctr := []
def i_slices_Index_Lint_int_1 : PS := ⟨[(0, .h s2), (1, .h s1), (7, .h s1), (8, .h s1)], [], [s2, s1, s1, s1]⟩
def o_slices_Index_Lint_int_1 : List (Exit × PS) := [((.exit 0), ⟨[], [], []⟩), (.ret, ⟨[(4, .h s1)], [], [s1]⟩)]
def p_slices_Index_Lint_int_1 : Pl := .z
noncomputable def l_slices_Index_Lint_int_1 (N : Nat) : Nat → (List Int) × Int × Int × Int → Option ((Unit) ⊕ (Int)) := loopF (exC T (ct_slices_Index_Lint_int N) N (codeAt [1, 0, 1, 0, 0] (bodyOf Try.f73))) 19 i_slices_Index_Lint_int_1 o_slices_Index_Lint_int_1 p_slices_Index_Lint_int_1
def p_slices_Index_Lint_int : Pl := (.n .z (.n (.n .z (.n (.loop i_slices_Index_Lint_int_1 o_slices_Index_Lint_int_1 p_slices_Index_Lint_int_1) .z)) .z))
def r_slices_Index_Lint_int : PS := ⟨[(4, .h s1)], [], [s1]⟩
noncomputable def m_slices_Index_Lint_int (N : Nat) : (List Int) × Int → Option (Int) := exF T ct_slices_Index_Lint_int N (bodyOf Try.f73) 19 p_slices_Index_Lint_int [.h s2, .h s1] [] [s2, s1] r_slices_Index_Lint_int
noncomputable def c_slices_Index_Lint_int (N : Nat) : Ctr := ⟨73, [.h s2, .h s1], [], [s2, s1], Tup r_slices_Index_Lint_int.c, m_slices_Index_Lint_int N, fun y _ k => k (resG T (mkPS 19 r_slices_Index_Lint_int y) Try.f73.results.toList) (keepH' [] (mkPS 19 r_slices_Index_Lint_int y).h), false, true⟩
theorem l_slices_Index_Lint_int_1_s (N m : Nat) (s : (List Int)) (v : Int) (v7 : Int) (v8 : Int) : l_slices_Index_Lint_int_1 N (m + 1) (s, v, v7, v8) = cond (decide (v8 < v7))
   (obind (nthI s v8) fun z1 =>
    cond (decide (v = z1))
     (some (.inr v8))
     ((l_slices_Index_Lint_int_1 N m (s, (v, (v7, (IntKind.wrap .i64 (v8 + (1 : Int)))))))))
   (some (.inl ())) := by kernel_rfl
theorem m_slices_Index_Lint_int_eq (N : Nat) (s : (List Int)) (v : Int) : m_slices_Index_Lint_int (N + 1) (s, v) = obind (l_slices_Index_Lint_int_1 N N (s, (v, ((((List.length s) : Nat) : Int), (0 : Int))))) fun z1 =>
  (match z1 with
  | .inl zy2 => some (-(1 : Int))
  | .inr zy3 => some zy3) := by kernel_rfl
theorem c_slices_Index_Lint_int_ok (N : Nat) : (c_slices_Index_Lint_int N).ok Try.prog := exF_ok (T := T) (CT := ct_slices_Index_Lint_int) (N := N) (fun M => ⟨tOk, ctAll_nil, mixed, bwAll⟩) Try.func73 (by kernel_rfl) (by kernel_rfl) p_slices_Index_Lint_int _ _ [s2, s1] r_slices_Index_Lint_int false true [] (by kernel_rfl) (fun y => by kernel_rfl) (fun _ => ⟨rfl, rfl⟩) (fun y => by kernel_rfl) (m_slices_Index_Lint_int N) (fun x => by kernel_rfl)
noncomputable def ct_slices_Contains_Lint_int (N : Nat) : List Ctr := [c_slices_Index_Lint_int N]
def p_slices_Contains_Lint_int : Pl := .z
def r_slices_Contains_Lint_int : PS := ⟨[(4, .h .b)], [], [.b]⟩
noncomputable def m_slices_Contains_Lint_int (N : Nat) : (List Int) × Int → Option (Bool) := exF T ct_slices_Contains_Lint_int N (bodyOf Try.f47) 9 p_slices_Contains_Lint_int [.h s2, .h s1] [] [s2, s1] r_slices_Contains_Lint_int
noncomputable def c_slices_Contains_Lint_int (N : Nat) : Ctr := ⟨47, [.h s2, .h s1], [], [s2, s1], Tup r_slices_Contains_Lint_int.c, m_slices_Contains_Lint_int N, fun y _ k => k (resG T (mkPS 9 r_slices_Contains_Lint_int y) Try.f47.results.toList) (keepH' [] (mkPS 9 r_slices_Contains_Lint_int y).h), false, true⟩
theorem m_slices_Contains_Lint_int_eq (N : Nat) (s : (List Int)) (v : Int) : m_slices_Contains_Lint_int (N + 1) (s, v) = obind (m_slices_Index_Lint_int N (s, v)) fun z1 =>
  some (decide ((0 : Int) ≤ z1)) := by kernel_rfl
theorem c_slices_Contains_Lint_int_ok (N : Nat) : (c_slices_Contains_Lint_int N).ok Try.prog := exF_ok (T := T) (CT := ct_slices_Contains_Lint_int) (N := N) (fun M => ⟨tOk, (ctAll_cons (c_slices_Index_Lint_int_ok M) ctAll_nil), mixed, bwAll⟩) Try.func47 (by kernel_rfl) (by kernel_rfl) p_slices_Contains_Lint_int _ _ [s2, s1] r_slices_Contains_Lint_int false true [] (by kernel_rfl) (fun y => by kernel_rfl) (fun _ => ⟨rfl, rfl⟩) (fun y => by kernel_rfl) (m_slices_Contains_Lint_int N) (fun x => by kernel_rfl)
noncomputable def ct_store_empty (N : Nat) : List Ctr := []
def p_store_empty : Pl := .z
def r_store_empty : PS := ⟨[(2, .h .b)], [], [.b]⟩
noncomputable def m_store_empty (N : Nat) : Int × Int × (List (Int × Int)) → Option (Bool) := exF T ct_store_empty N (bodyOf Try.f48) 17 p_store_empty [.ag [.h s1, .h s1, .h s5]] [] [s1, s1, s5] r_store_empty
noncomputable def c_store_empty (N : Nat) : Ctr := ⟨48, [.ag [.h s1, .h s1, .h s5]], [], [s1, s1, s5], Tup r_store_empty.c, m_store_empty N, fun y _ k => k (resG T (mkPS 17 r_store_empty y) Try.f48.results.toList) (keepH' [] (mkPS 17 r_store_empty y).h), false, true⟩
theorem m_store_empty_eq (N : Nat) (x : Int) (x2 : Int) (x3 : (List (Int × Int))) : m_store_empty (N + 1) (x, x2, x3) = cond (decide (x = (0 : Int)))
   (cond (decide (x2 = (0 : Int)))
     (some (decide ((((List.length x3) : Nat) : Int) = (0 : Int))))
     (some false))
   (some false) := by kernel_rfl
theorem c_store_empty_ok (N : Nat) : (c_store_empty N).ok Try.prog := exF_ok (T := T) (CT := ct_store_empty) (N := N) (fun M => ⟨tOk, ctAll_nil, mixed, bwAll⟩) Try.func48 (by kernel_rfl) (by kernel_rfl) p_store_empty _ _ [s1, s1, s5] r_store_empty false true [] (by kernel_rfl) (fun y => by kernel_rfl) (fun _ => ⟨rfl, rfl⟩) (fun y => by kernel_rfl) (m_store_empty N) (fun x => by kernel_rfl)
noncomputable def ct_pool_Good (N : Nat) : List Ctr := [c_pool_Right N, c_slices_Contains_Lint_int N]
def p_pool_Good : Pl := .z
def r_pool_Good : PS := ⟨[(4, .h .b)], [], [.b]⟩
noncomputable def m_pool_Good (N : Nat) : (List Int) × (List Int) × Int × Int → Option (Bool) := exF T ct_pool_Good N (bodyOf Try.f34) 39 p_pool_Good [.ag [.h s2, .h s2], .ag [.h s1, .h s1]] [] [s2, s2, s1, s1] r_pool_Good
noncomputable def c_pool_Good (N : Nat) : Ctr := ⟨34, [.ag [.h s2, .h s2], .ag [.h s1, .h s1]], [], [s2, s2, s1, s1], Tup r_pool_Good.c, m_pool_Good N, fun y _ k => k (resG T (mkPS 39 r_pool_Good y) Try.f34.results.toList) (keepH' [] (mkPS 39 r_pool_Good y).h), false, true⟩
theorem m_pool_Good_eq (N : Nat) (p : (List Int)) (p2 : (List Int)) (h : Int) (h2 : Int) : m_pool_Good (N + 1) (p, p2, h, h2) = obind (m_pool_Right N (p, p2)) fun z1 =>
  cond z1
   (cond (decide ((0 : Int) ≤ h))
     (cond (decide (h < (((List.length p) : Nat) : Int)))
       (obind (nthI p h) fun z2 =>
        cond (decide (z2 = h2))
         (obind (m_slices_Contains_Lint_int N (p2, h)) fun z3 =>
          some (!z3))
         (some false))
       (some false))
     (some false))
   (some false) := by kernel_rfl
theorem c_pool_Good_ok (N : Nat) : (c_pool_Good N).ok Try.prog := exF_ok (T := T) (CT := ct_pool_Good) (N := N) (fun M => ⟨tOk, (ctAll_cons (c_pool_Right_ok M) (ctAll_cons (c_slices_Contains_Lint_int_ok M) ctAll_nil)), mixed, bwAll⟩) Try.func34 (by kernel_rfl) (by kernel_rfl) p_pool_Good _ _ [s2, s2, s1, s1] r_pool_Good false true [] (by kernel_rfl) (fun y => by kernel_rfl) (fun _ => ⟨rfl, rfl⟩) (fun y => by kernel_rfl) (m_pool_Good N) (fun x => by kernel_rfl)
noncomputable def ct_store_fullF1_phh (N : Nat) : List Ctr := [c_pool_Good N]
def p_store_fullF1_phh : Pl := .z
def r_store_fullF1_phh : PS := ⟨[(3, .h .b)], [(4294967296, .box 24 [.h s2, .h s2])], [.b, s2, s2]⟩
noncomputable def m_store_fullF1_phh (N : Nat) : Int × Int × (List Int) × (List Int) → Option (Bool × (List Int) × (List Int)) := exF T ct_store_fullF1_phh N (bodyOf Try.f74) 8 p_store_fullF1_phh [.ag [.h s1, .h s1], .k (.pt 4294967296 0)] [(4294967296, .box 24 [.h s2, .h s2])] [s1, s1, s2, s2] r_store_fullF1_phh
noncomputable def c_store_fullF1_phh (N : Nat) : Ctr := ⟨74, [.ag [.h s1, .h s1], .k (.pt 4294967296 0)], [(4294967296, .box 24 [.h s2, .h s2])], [s1, s1, s2, s2], Tup r_store_fullF1_phh.c, m_store_fullF1_phh N, fun y _ k => k (resG T (mkPS 8 r_store_fullF1_phh y) Try.f74.results.toList) (keepH' [4294967296] (mkPS 8 r_store_fullF1_phh y).h), true, false⟩
theorem m_store_fullF1_phh_eq (N : Nat) (h : Int) (h2 : Int) (v4294967296 : (List Int)) (v42949672962 : (List Int)) : m_store_fullF1_phh (N + 1) (h, h2, v4294967296, v42949672962) = obind (m_pool_Good N (v4294967296, (v42949672962, (h, h2)))) fun z1 =>
  some ((!z1), (v4294967296, v42949672962)) := by kernel_rfl
theorem c_store_fullF1_phh_ok (N : Nat) : (c_store_fullF1_phh N).ok Try.prog := exF_ok (T := T) (CT := ct_store_fullF1_phh) (N := N) (fun M => ⟨tOk, (ctAll_cons (c_pool_Good_ok M) ctAll_nil), mixed, bwAll⟩) Try.func74 (by kernel_rfl) (by kernel_rfl) p_store_fullF1_phh _ _ [s1, s1, s2, s2] r_store_fullF1_phh true false [4294967296] (by kernel_rfl) (fun y => by kernel_rfl) (fun h => by cases h) (fun y => by kernel_rfl) (m_store_fullF1_phh N) (fun x => by kernel_rfl)
noncomputable def ct_slices_IndexFunc_Lapi_Handle_api_Handle_store_fullF1_f74phh (N : Nat) : List Ctr := [c_store_fullF1_phh N]
def i_slices_IndexFunc_Lapi_Handle_api_Handle_store_fullF1_f74phh_1 : PS := ⟨[(0, .h s5), (1, .cl (.func 74) [] [.k (.pt 4294967296 0)]), (7, .h s1), (8, .h s1)], [(4294967296, .box 24 [.h s2, .h s2])], [s5, s1, s1, s2, s2]⟩
def o_slices_IndexFunc_Lapi_Handle_api_Handle_store_fullF1_f74phh_1 : List (Exit × PS) := [((.exit 0), ⟨[], [(4294967296, .box 24 [.h s2, .h s2])], [s2, s2]⟩), (.ret, ⟨[(4, .h s1)], [(4294967296, .box 24 [.h s2, .h s2])], [s1, s2, s2]⟩)]
def p_slices_IndexFunc_Lapi_Handle_api_Handle_store_fullF1_f74phh_1 : Pl := .z
noncomputable def l_slices_IndexFunc_Lapi_Handle_api_Handle_store_fullF1_f74phh_1 (N : Nat) : Nat → (List (Int × Int)) × Int × Int × (List Int) × (List Int) → Option (((List Int) × (List Int)) ⊕ (Int × (List Int) × (List Int))) := loopF (exC T (ct_slices_IndexFunc_Lapi_Handle_api_Handle_store_fullF1_f74phh N) N (codeAt [1, 0, 1, 0, 0] (bodyOf Try.f91))) 19 i_slices_IndexFunc_Lapi_Handle_api_Handle_store_fullF1_f74phh_1 o_slices_IndexFunc_Lapi_Handle_api_Handle_store_fullF1_f74phh_1 p_slices_IndexFunc_Lapi_Handle_api_Handle_store_fullF1_f74phh_1
def p_slices_IndexFunc_Lapi_Handle_api_Handle_store_fullF1_f74phh : Pl := (.n .z (.n (.n .z (.n (.loop i_slices_IndexFunc_Lapi_Handle_api_Handle_store_fullF1_f74phh_1 o_slices_IndexFunc_Lapi_Handle_api_Handle_store_fullF1_f74phh_1 p_slices_IndexFunc_Lapi_Handle_api_Handle_store_fullF1_f74phh_1) .z)) .z))
def r_slices_IndexFunc_Lapi_Handle_api_Handle_store_fullF1_f74phh : PS := ⟨[(4, .h s1)], [(4294967296, .box 24 [.h s2, .h s2])], [s1, s2, s2]⟩
noncomputable def m_slices_IndexFunc_Lapi_Handle_api_Handle_store_fullF1_f74phh (N : Nat) : (List (Int × Int)) × (List Int) × (List Int) → Option (Int × (List Int) × (List Int)) := exF T ct_slices_IndexFunc_Lapi_Handle_api_Handle_store_fullF1_f74phh N (bodyOf Try.f91) 19 p_slices_IndexFunc_Lapi_Handle_api_Handle_store_fullF1_f74phh [.h s5, .cl (.func 74) [] [.k (.pt 4294967296 0)]] [(4294967296, .box 24 [.h s2, .h s2])] [s5, s2, s2] r_slices_IndexFunc_Lapi_Handle_api_Handle_store_fullF1_f74phh
noncomputable def c_slices_IndexFunc_Lapi_Handle_api_Handle_store_fullF1_f74phh (N : Nat) : Ctr := ⟨91, [.h s5, .cl (.func 74) [] [.k (.pt 4294967296 0)]], [(4294967296, .box 24 [.h s2, .h s2])], [s5, s2, s2], Tup r_slices_IndexFunc_Lapi_Handle_api_Handle_store_fullF1_f74phh.c, m_slices_IndexFunc_Lapi_Handle_api_Handle_store_fullF1_f74phh N, fun y _ k => k (resG T (mkPS 19 r_slices_IndexFunc_Lapi_Handle_api_Handle_store_fullF1_f74phh y) Try.f91.results.toList) (keepH' [4294967296] (mkPS 19 r_slices_IndexFunc_Lapi_Handle_api_Handle_store_fullF1_f74phh y).h), true, false⟩
theorem l_slices_IndexFunc_Lapi_Handle_api_Handle_store_fullF1_f74phh_1_s (N m : Nat) (s : (List (Int × Int))) (v7 : Int) (v8 : Int) (f : (List Int)) (f2 : (List Int)) : l_slices_IndexFunc_Lapi_Handle_api_Handle_store_fullF1_f74phh_1 N (m + 1) (s, v7, v8, f, f2) = cond (decide (v8 < v7))
   (obind (nthI s v8) fun z1 =>
    obind (m_store_fullF1_phh N (z1.1, (z1.2, (f, f2)))) fun z2 =>
    cond z2.1
     (some (.inr (v8, (z2.2.1, z2.2.2))))
     ((l_slices_IndexFunc_Lapi_Handle_api_Handle_store_fullF1_f74phh_1 N m (s, (v7, ((IntKind.wrap .i64 (v8 + (1 : Int))), (z2.2.1, z2.2.2)))))))
   (some (.inl (f, f2))) := by kernel_rfl
theorem m_slices_IndexFunc_Lapi_Handle_api_Handle_store_fullF1_f74phh_eq (N : Nat) (s : (List (Int × Int))) (f : (List Int)) (f2 : (List Int)) : m_slices_IndexFunc_Lapi_Handle_api_Handle_store_fullF1_f74phh (N + 1) (s, f, f2) = obind (l_slices_IndexFunc_Lapi_Handle_api_Handle_store_fullF1_f74phh_1 N N (s, ((((List.length s) : Nat) : Int), ((0 : Int), (f, f2))))) fun z1 =>
  (match z1 with
  | .inl zy2 => some ((-(1 : Int)), (zy2.1, zy2.2))
  | .inr zy3 => some (zy3.1, (zy3.2.1, zy3.2.2))) := by kernel_rfl
theorem c_slices_IndexFunc_Lapi_Handle_api_Handle_store_fullF1_f74phh_ok (N : Nat) : (c_slices_IndexFunc_Lapi_Handle_api_Handle_store_fullF1_f74phh N).ok Try.prog := exF_ok (T := T) (CT := ct_slices_IndexFunc_Lapi_Handle_api_Handle_store_fullF1_f74phh) (N := N) (fun M => ⟨tOk, (ctAll_cons (c_store_fullF1_phh_ok M) ctAll_nil), mixed, bwAll⟩) Try.func91 (by kernel_rfl) (by kernel_rfl) p_slices_IndexFunc_Lapi_Handle_api_Handle_store_fullF1_f74phh _ _ [s5, s2, s2] r_slices_IndexFunc_Lapi_Handle_api_Handle_store_fullF1_f74phh true false [4294967296] (by kernel_rfl) (fun y => by kernel_rfl) (fun h => by cases h) (fun y => by kernel_rfl) (m_slices_IndexFunc_Lapi_Handle_api_Handle_store_fullF1_f74phh N) (fun x => by kernel_rfl)
noncomputable def ct_slices_ContainsFunc_Lapi_Handle_api_Handle_store_fullF1_f74phh (N : Nat) : List Ctr := [c_slices_IndexFunc_Lapi_Handle_api_Handle_store_fullF1_f74phh N]
def p_slices_ContainsFunc_Lapi_Handle_api_Handle_store_fullF1_f74phh : Pl := .z
def r_slices_ContainsFunc_Lapi_Handle_api_Handle_store_fullF1_f74phh : PS := ⟨[(4, .h .b)], [(4294967296, .box 24 [.h s2, .h s2])], [.b, s2, s2]⟩
noncomputable def m_slices_ContainsFunc_Lapi_Handle_api_Handle_store_fullF1_f74phh (N : Nat) : (List (Int × Int)) × (List Int) × (List Int) → Option (Bool × (List Int) × (List Int)) := exF T ct_slices_ContainsFunc_Lapi_Handle_api_Handle_store_fullF1_f74phh N (bodyOf Try.f65) 9 p_slices_ContainsFunc_Lapi_Handle_api_Handle_store_fullF1_f74phh [.h s5, .cl (.func 74) [] [.k (.pt 4294967296 0)]] [(4294967296, .box 24 [.h s2, .h s2])] [s5, s2, s2] r_slices_ContainsFunc_Lapi_Handle_api_Handle_store_fullF1_f74phh
noncomputable def c_slices_ContainsFunc_Lapi_Handle_api_Handle_store_fullF1_f74phh (N : Nat) : Ctr := ⟨65, [.h s5, .cl (.func 74) [] [.k (.pt 4294967296 0)]], [(4294967296, .box 24 [.h s2, .h s2])], [s5, s2, s2], Tup r_slices_ContainsFunc_Lapi_Handle_api_Handle_store_fullF1_f74phh.c, m_slices_ContainsFunc_Lapi_Handle_api_Handle_store_fullF1_f74phh N, fun y _ k => k (resG T (mkPS 9 r_slices_ContainsFunc_Lapi_Handle_api_Handle_store_fullF1_f74phh y) Try.f65.results.toList) (keepH' [4294967296] (mkPS 9 r_slices_ContainsFunc_Lapi_Handle_api_Handle_store_fullF1_f74phh y).h), true, false⟩
theorem m_slices_ContainsFunc_Lapi_Handle_api_Handle_store_fullF1_f74phh_eq (N : Nat) (s : (List (Int × Int))) (f : (List Int)) (f2 : (List Int)) : m_slices_ContainsFunc_Lapi_Handle_api_Handle_store_fullF1_f74phh (N + 1) (s, f, f2) = obind (m_slices_IndexFunc_Lapi_Handle_api_Handle_store_fullF1_f74phh N (s, (f, f2))) fun z1 =>
  some ((decide ((0 : Int) ≤ z1.1)), (z1.2.1, z1.2.2)) := by kernel_rfl
theorem c_slices_ContainsFunc_Lapi_Handle_api_Handle_store_fullF1_f74phh_ok (N : Nat) : (c_slices_ContainsFunc_Lapi_Handle_api_Handle_store_fullF1_f74phh N).ok Try.prog := exF_ok (T := T) (CT := ct_slices_ContainsFunc_Lapi_Handle_api_Handle_store_fullF1_f74phh) (N := N) (fun M => ⟨tOk, (ctAll_cons (c_slices_IndexFunc_Lapi_Handle_api_Handle_store_fullF1_f74phh_ok M) ctAll_nil), mixed, bwAll⟩) Try.func65 (by kernel_rfl) (by kernel_rfl) p_slices_ContainsFunc_Lapi_Handle_api_Handle_store_fullF1_f74phh _ _ [s5, s2, s2] r_slices_ContainsFunc_Lapi_Handle_api_Handle_store_fullF1_f74phh true false [4294967296] (by kernel_rfl) (fun y => by kernel_rfl) (fun h => by cases h) (fun y => by kernel_rfl) (m_slices_ContainsFunc_Lapi_Handle_api_Handle_store_fullF1_f74phh N) (fun x => by kernel_rfl)
noncomputable def ct_store_full (N : Nat) : List Ctr := [c_slices_ContainsFunc_Lapi_Handle_api_Handle_store_fullF1_f74phh N]
def p_store_full : Pl := .z
def r_store_full : PS := ⟨[(4, .h .b)], [], [.b]⟩
noncomputable def m_store_full (N : Nat) : (List Int) × (List Int) × Int × Int × (List (Int × Int)) → Option (Bool) := exF T ct_store_full N (bodyOf Try.f49) 31 p_store_full [.ag [.h s2, .h s2], .ag [.h s1, .h s1, .h s5]] [] [s2, s2, s1, s1, s5] r_store_full
noncomputable def c_store_full (N : Nat) : Ctr := ⟨49, [.ag [.h s2, .h s2], .ag [.h s1, .h s1, .h s5]], [], [s2, s2, s1, s1, s5], Tup r_store_full.c, m_store_full N, fun y _ k => k (resG T (mkPS 31 r_store_full y) Try.f49.results.toList) (keepH' [] (mkPS 31 r_store_full y).h), false, true⟩
theorem m_store_full_eq (N : Nat) (p : (List Int)) (p2 : (List Int)) (x : Int) (x2 : Int) (x3 : (List (Int × Int))) : m_store_full (N + 1) (p, p2, x, x2, x3) = cond (decide (x < (0 : Int)))
   (some false)
   (cond (decide (x2 < (1 : Int)))
     (some false)
     (cond (decide ((8 : Int) < x2))
       (some false)
       (cond (!(decide ((((List.length x3) : Nat) : Int) = x2)))
         (some false)
         (obind (m_slices_ContainsFunc_Lapi_Handle_api_Handle_store_fullF1_f74phh N (x3, (p, p2))) fun z1 =>
          some (!z1.1))))) := by kernel_rfl
theorem c_store_full_ok (N : Nat) : (c_store_full N).ok Try.prog := exF_ok (T := T) (CT := ct_store_full) (N := N) (fun M => ⟨tOk, (ctAll_cons (c_slices_ContainsFunc_Lapi_Handle_api_Handle_store_fullF1_f74phh_ok M) ctAll_nil), mixed, bwAll⟩) Try.func49 (by kernel_rfl) (by kernel_rfl) p_store_full _ _ [s2, s2, s1, s1, s5] r_store_full false true [] (by kernel_rfl) (fun y => by kernel_rfl) (fun _ => ⟨rfl, rfl⟩) (fun y => by kernel_rfl) (m_store_full N) (fun x => by kernel_rfl)
noncomputable def ct_store_Right (N : Nat) : List Ctr := [c_pool_Right N, c_slices_Contains_Lint_int N, c_store_empty N, c_store_full N]
def i_store_Right_1 : PS := ⟨[(1, .k (.pt 900 0)), (20, .h s12), (21, .h s1), (22, .h s1)], [(900, .box 27 [.h s2, .h s2, .h s12])], [s12, s1, s1, s2, s2, s12]⟩
def o_store_Right_1 : List (Exit × PS) := [((.exit 0), ⟨[], [], []⟩), (.ret, ⟨[(2, .h .b)], [], [.b]⟩)]
def p_store_Right_1 : Pl := .z
noncomputable def l_store_Right_1 (N : Nat) : Nat → (List (Int × (Int × (List (Int × Int))))) × Int × Int × (List Int) × (List Int) × (List (Int × (Int × (List (Int × Int))))) → Option ((Unit) ⊕ (Bool)) := loopF (exC T (ct_store_Right N) N (codeAt [1, 1, 0, 1, 0, 0] (bodyOf Try.f18))) 41 i_store_Right_1 o_store_Right_1 p_store_Right_1
def p_store_Right : Pl := (.n .z (.n .z (.n (.n .z (.n (.loop i_store_Right_1 o_store_Right_1 p_store_Right_1) .z)) .z)))
def r_store_Right : PS := ⟨[(2, .h .b)], [], [.b]⟩
noncomputable def m_store_Right (N : Nat) : (List Int) × (List Int) × (List (Int × (Int × (List (Int × Int))))) → Option (Bool) := exF T ct_store_Right N (bodyOf Try.f18) 41 p_store_Right [.ag [.h s2, .h s2, .h s12]] [] [s2, s2, s12] r_store_Right
noncomputable def c_store_Right (N : Nat) : Ctr := ⟨18, [.ag [.h s2, .h s2, .h s12]], [], [s2, s2, s12], Tup r_store_Right.c, m_store_Right N, fun y _ k => k (resG T (mkPS 41 r_store_Right y) Try.f18.results.toList) (keepH' [] (mkPS 41 r_store_Right y).h), false, true⟩
theorem l_store_Right_1_s (N m : Nat) (v20 : (List (Int × (Int × (List (Int × Int)))))) (v21 : Int) (v22 : Int) (s : (List Int)) (s2 : (List Int)) (s3 : (List (Int × (Int × (List (Int × Int)))))) : l_store_Right_1 N (m + 1) (v20, v21, v22, s, s2, s3) = cond (decide (v22 < v21))
   (obind (nthI v20 v22) fun z1 =>
    obind (m_slices_Contains_Lint_int N (s2, v22)) fun z2 =>
    cond z2
     (obind (m_store_empty N (z1.1, (z1.2.1, z1.2.2))) fun z3 =>
      cond (!z3)
       (some (.inr false))
       ((l_store_Right_1 N m (v20, (v21, ((IntKind.wrap .i64 (v22 + (1 : Int))), (s, (s2, s3))))))))
     (obind (m_store_full N (s, (s2, (z1.1, (z1.2.1, z1.2.2))))) fun z4 =>
      cond (!z4)
       (some (.inr false))
       ((l_store_Right_1 N m (v20, (v21, ((IntKind.wrap .i64 (v22 + (1 : Int))), (s, (s2, s3)))))))))
   (some (.inl ())) := by kernel_rfl
theorem m_store_Right_eq (N : Nat) (s : (List Int)) (s2 : (List Int)) (s3 : (List (Int × (Int × (List (Int × Int)))))) : m_store_Right (N + 1) (s, s2, s3) = obind (m_pool_Right N (s, s2)) fun z1 =>
  cond (!z1)
   (some false)
   (cond (!(decide ((((List.length s3) : Nat) : Int) = (((List.length s) : Nat) : Int))))
     (some false)
     (obind (l_store_Right_1 N N (s3, ((((List.length s3) : Nat) : Int), ((0 : Int), (s, (s2, s3)))))) fun z2 =>
      (match z2 with
      | .inl zy3 => some true
      | .inr zy4 => some zy4))) := by kernel_rfl
theorem c_store_Right_ok (N : Nat) : (c_store_Right N).ok Try.prog := exF_ok (T := T) (CT := ct_store_Right) (N := N) (fun M => ⟨tOk, (ctAll_cons (c_pool_Right_ok M) (ctAll_cons (c_slices_Contains_Lint_int_ok M) (ctAll_cons (c_store_empty_ok M) (ctAll_cons (c_store_full_ok M) ctAll_nil)))), mixed, bwAll⟩) Try.func18 (by kernel_rfl) (by kernel_rfl) p_store_Right _ _ [s2, s2, s12] r_store_Right false true [] (by kernel_rfl) (fun y => by kernel_rfl) (fun _ => ⟨rfl, rfl⟩) (fun y => by kernel_rfl) (m_store_Right N) (fun x => by kernel_rfl)
noncomputable def ct_ring_RightF1 (N : Nat) : List Ctr := []
def p_ring_RightF1 : Pl := .z
def r_ring_RightF1 : PS := ⟨[(2, .h .b)], [], [.b]⟩
noncomputable def m_ring_RightF1 (N : Nat) : Int → Option (Bool) := exF T ct_ring_RightF1 N (bodyOf Try.f99) 9 p_ring_RightF1 [.h s1] [] [s1] r_ring_RightF1
noncomputable def c_ring_RightF1 (N : Nat) : Ctr := ⟨99, [.h s1], [], [s1], Tup r_ring_RightF1.c, m_ring_RightF1 N, fun y _ k => k (resG T (mkPS 9 r_ring_RightF1 y) Try.f99.results.toList) (keepH' [] (mkPS 9 r_ring_RightF1 y).h), false, true⟩
theorem m_ring_RightF1_eq (N : Nat) (t : Int) : m_ring_RightF1 (N + 1) (t) = cond (decide (t < (0 : Int)))
   (some true)
   (some (decide ((10000 : Int) < t))) := by kernel_rfl
theorem c_ring_RightF1_ok (N : Nat) : (c_ring_RightF1 N).ok Try.prog := exF_ok (T := T) (CT := ct_ring_RightF1) (N := N) (fun M => ⟨tOk, ctAll_nil, mixed, bwAll⟩) Try.func99 (by kernel_rfl) (by kernel_rfl) p_ring_RightF1 _ _ [s1] r_ring_RightF1 false true [] (by kernel_rfl) (fun y => by kernel_rfl) (fun _ => ⟨rfl, rfl⟩) (fun y => by kernel_rfl) (m_ring_RightF1 N) (fun x => by kernel_rfl)
noncomputable def ct_slices_IndexFunc_Lint_int_ring_RightF1 (N : Nat) : List Ctr := [c_ring_RightF1 N]
def i_slices_IndexFunc_Lint_int_ring_RightF1_1 : PS := ⟨[(0, .h s2), (1, .k (.v (.func (.func 99) #[] #[]))), (7, .h s1), (8, .h s1)], [], [s2, s1, s1]⟩
def o_slices_IndexFunc_Lint_int_ring_RightF1_1 : List (Exit × PS) := [((.exit 0), ⟨[], [], []⟩), (.ret, ⟨[(4, .h s1)], [], [s1]⟩)]
def p_slices_IndexFunc_Lint_int_ring_RightF1_1 : Pl := .z
noncomputable def l_slices_IndexFunc_Lint_int_ring_RightF1_1 (N : Nat) : Nat → (List Int) × Int × Int → Option ((Unit) ⊕ (Int)) := loopF (exC T (ct_slices_IndexFunc_Lint_int_ring_RightF1 N) N (codeAt [1, 0, 1, 0, 0] (bodyOf Try.f104))) 19 i_slices_IndexFunc_Lint_int_ring_RightF1_1 o_slices_IndexFunc_Lint_int_ring_RightF1_1 p_slices_IndexFunc_Lint_int_ring_RightF1_1
def p_slices_IndexFunc_Lint_int_ring_RightF1 : Pl := (.n .z (.n (.n .z (.n (.loop i_slices_IndexFunc_Lint_int_ring_RightF1_1 o_slices_IndexFunc_Lint_int_ring_RightF1_1 p_slices_IndexFunc_Lint_int_ring_RightF1_1) .z)) .z))
def r_slices_IndexFunc_Lint_int_ring_RightF1 : PS := ⟨[(4, .h s1)], [], [s1]⟩
noncomputable def m_slices_IndexFunc_Lint_int_ring_RightF1 (N : Nat) : (List Int) → Option (Int) := exF T ct_slices_IndexFunc_Lint_int_ring_RightF1 N (bodyOf Try.f104) 19 p_slices_IndexFunc_Lint_int_ring_RightF1 [.h s2, .k (.v (.func (.func 99) #[] #[]))] [] [s2] r_slices_IndexFunc_Lint_int_ring_RightF1
noncomputable def c_slices_IndexFunc_Lint_int_ring_RightF1 (N : Nat) : Ctr := ⟨104, [.h s2, .k (.v (.func (.func 99) #[] #[]))], [], [s2], Tup r_slices_IndexFunc_Lint_int_ring_RightF1.c, m_slices_IndexFunc_Lint_int_ring_RightF1 N, fun y _ k => k (resG T (mkPS 19 r_slices_IndexFunc_Lint_int_ring_RightF1 y) Try.f104.results.toList) (keepH' [] (mkPS 19 r_slices_IndexFunc_Lint_int_ring_RightF1 y).h), false, true⟩
theorem l_slices_IndexFunc_Lint_int_ring_RightF1_1_s (N m : Nat) (s : (List Int)) (v7 : Int) (v8 : Int) : l_slices_IndexFunc_Lint_int_ring_RightF1_1 N (m + 1) (s, v7, v8) = cond (decide (v8 < v7))
   (obind (nthI s v8) fun z1 =>
    obind (m_ring_RightF1 N z1) fun z2 =>
    cond z2
     (some (.inr v8))
     ((l_slices_IndexFunc_Lint_int_ring_RightF1_1 N m (s, (v7, (IntKind.wrap .i64 (v8 + (1 : Int))))))))
   (some (.inl ())) := by kernel_rfl
theorem m_slices_IndexFunc_Lint_int_ring_RightF1_eq (N : Nat) (s : (List Int)) : m_slices_IndexFunc_Lint_int_ring_RightF1 (N + 1) (s) = obind (l_slices_IndexFunc_Lint_int_ring_RightF1_1 N N (s, ((((List.length s) : Nat) : Int), (0 : Int)))) fun z1 =>
  (match z1 with
  | .inl zy2 => some (-(1 : Int))
  | .inr zy3 => some zy3) := by kernel_rfl
theorem c_slices_IndexFunc_Lint_int_ring_RightF1_ok (N : Nat) : (c_slices_IndexFunc_Lint_int_ring_RightF1 N).ok Try.prog := exF_ok (T := T) (CT := ct_slices_IndexFunc_Lint_int_ring_RightF1) (N := N) (fun M => ⟨tOk, (ctAll_cons (c_ring_RightF1_ok M) ctAll_nil), mixed, bwAll⟩) Try.func104 (by kernel_rfl) (by kernel_rfl) p_slices_IndexFunc_Lint_int_ring_RightF1 _ _ [s2] r_slices_IndexFunc_Lint_int_ring_RightF1 false true [] (by kernel_rfl) (fun y => by kernel_rfl) (fun _ => ⟨rfl, rfl⟩) (fun y => by kernel_rfl) (m_slices_IndexFunc_Lint_int_ring_RightF1 N) (fun x => by kernel_rfl)
noncomputable def ct_slices_ContainsFunc_Lint_int_ring_RightF1 (N : Nat) : List Ctr := [c_slices_IndexFunc_Lint_int_ring_RightF1 N]
def p_slices_ContainsFunc_Lint_int_ring_RightF1 : Pl := .z
def r_slices_ContainsFunc_Lint_int_ring_RightF1 : PS := ⟨[(4, .h .b)], [], [.b]⟩
noncomputable def m_slices_ContainsFunc_Lint_int_ring_RightF1 (N : Nat) : (List Int) → Option (Bool) := exF T ct_slices_ContainsFunc_Lint_int_ring_RightF1 N (bodyOf Try.f95) 9 p_slices_ContainsFunc_Lint_int_ring_RightF1 [.h s2, .k (.v (.func (.func 99) #[] #[]))] [] [s2] r_slices_ContainsFunc_Lint_int_ring_RightF1
noncomputable def c_slices_ContainsFunc_Lint_int_ring_RightF1 (N : Nat) : Ctr := ⟨95, [.h s2, .k (.v (.func (.func 99) #[] #[]))], [], [s2], Tup r_slices_ContainsFunc_Lint_int_ring_RightF1.c, m_slices_ContainsFunc_Lint_int_ring_RightF1 N, fun y _ k => k (resG T (mkPS 9 r_slices_ContainsFunc_Lint_int_ring_RightF1 y) Try.f95.results.toList) (keepH' [] (mkPS 9 r_slices_ContainsFunc_Lint_int_ring_RightF1 y).h), false, true⟩
theorem m_slices_ContainsFunc_Lint_int_ring_RightF1_eq (N : Nat) (s : (List Int)) : m_slices_ContainsFunc_Lint_int_ring_RightF1 (N + 1) (s) = obind (m_slices_IndexFunc_Lint_int_ring_RightF1 N s) fun z1 =>
  some (decide ((0 : Int) ≤ z1)) := by kernel_rfl
theorem c_slices_ContainsFunc_Lint_int_ring_RightF1_ok (N : Nat) : (c_slices_ContainsFunc_Lint_int_ring_RightF1 N).ok Try.prog := exF_ok (T := T) (CT := ct_slices_ContainsFunc_Lint_int_ring_RightF1) (N := N) (fun M => ⟨tOk, (ctAll_cons (c_slices_IndexFunc_Lint_int_ring_RightF1_ok M) ctAll_nil), mixed, bwAll⟩) Try.func95 (by kernel_rfl) (by kernel_rfl) p_slices_ContainsFunc_Lint_int_ring_RightF1 _ _ [s2] r_slices_ContainsFunc_Lint_int_ring_RightF1 false true [] (by kernel_rfl) (fun y => by kernel_rfl) (fun _ => ⟨rfl, rfl⟩) (fun y => by kernel_rfl) (m_slices_ContainsFunc_Lint_int_ring_RightF1 N) (fun x => by kernel_rfl)
noncomputable def ct_ring_once_int (N : Nat) : List Ctr := []
def i_ring_once_int_1 : PS := ⟨[(0, .h s2), (3, .k (.mp 900)), (7, .h s2), (8, .h s1), (9, .h s1)], [(900, .mp (.int .i64) s1 s1)], [s2, s2, s1, s1, s5]⟩
def o_ring_once_int_1 : List (Exit × PS) := [((.exit 0), ⟨[(0, .h s2), (3, .k (.mp 900))], [(900, .mp (.int .i64) s1 s1)], [s2, s5]⟩)]
def p_ring_once_int_1 : Pl := .z
noncomputable def l_ring_once_int_1 (N : Nat) : Nat → (List Int) × (List Int) × Int × Int × (List (Int × Int)) → Option ((List Int) × (List (Int × Int))) := loopF (exC T (ct_ring_once_int N) N (codeAt [1, 1, 0, 1, 0, 0] (bodyOf Try.f100))) 23 i_ring_once_int_1 o_ring_once_int_1 p_ring_once_int_1
def p_ring_once_int : Pl := (.n .z (.n .z (.n (.n .z (.n (.loop i_ring_once_int_1 o_ring_once_int_1 p_ring_once_int_1) .z)) .z)))
def r_ring_once_int : PS := ⟨[(2, .h .b)], [], [.b]⟩
noncomputable def m_ring_once_int (N : Nat) : (List Int) → Option (Bool) := exF T ct_ring_once_int N (bodyOf Try.f100) 23 p_ring_once_int [.h s2] [] [s2] r_ring_once_int
noncomputable def c_ring_once_int (N : Nat) : Ctr := ⟨100, [.h s2], [], [s2], Tup r_ring_once_int.c, m_ring_once_int N, fun y _ k => k (resG T (mkPS 23 r_ring_once_int y) Try.f100.results.toList) (keepH' [] (mkPS 23 r_ring_once_int y).h), false, true⟩
theorem l_ring_once_int_1_s (N m : Nat) (l : (List Int)) (v7 : (List Int)) (v8 : Int) (v9 : Int) (met : (List (Int × Int))) : l_ring_once_int_1 N (m + 1) (l, v7, v8, v9, met) = cond (decide (v9 < v8))
   (obind (nthI v7 v9) fun z1 =>
    (l_ring_once_int_1 N m (l, (v7, (v8, ((IntKind.wrap .i64 (v9 + (1 : Int))), (mput (.i .i64) met z1 (IntKind.wrap .i64 ((Option.getD (mget (.i .i64) met z1) (0 : Int)) + (1 : Int))))))))))
   (some (l, met)) := by kernel_rfl
theorem m_ring_once_int_eq (N : Nat) (l : (List Int)) : m_ring_once_int (N + 1) (l) = obind (l_ring_once_int_1 N N (l, (l, ((((List.length l) : Nat) : Int), ((0 : Int), []))))) fun z1 =>
  some (decide ((((List.length z1.2) : Nat) : Int) = (((List.length z1.1) : Nat) : Int))) := by kernel_rfl
theorem c_ring_once_int_ok (N : Nat) : (c_ring_once_int N).ok Try.prog := exF_ok (T := T) (CT := ct_ring_once_int) (N := N) (fun M => ⟨tOk, ctAll_nil, mixed, bwAll⟩) Try.func100 (by kernel_rfl) (by kernel_rfl) p_ring_once_int _ _ [s2] r_ring_once_int false true [] (by kernel_rfl) (fun y => by kernel_rfl) (fun _ => ⟨rfl, rfl⟩) (fun y => by kernel_rfl) (m_ring_once_int N) (fun x => by kernel_rfl)
noncomputable def ct_ring_Right (N : Nat) : List Ctr := [c_slices_ContainsFunc_Lint_int_ring_RightF1 N, c_ring_once_int N]
def p_ring_Right : Pl := .z
def r_ring_Right : PS := ⟨[(2, .h .b)], [], [.b]⟩
noncomputable def m_ring_Right (N : Nat) : (List Int) → Option (Bool) := exF T ct_ring_Right N (bodyOf Try.f80) 15 p_ring_Right [.h s2] [] [s2] r_ring_Right
noncomputable def c_ring_Right (N : Nat) : Ctr := ⟨80, [.h s2], [], [s2], Tup r_ring_Right.c, m_ring_Right N, fun y _ k => k (resG T (mkPS 15 r_ring_Right y) Try.f80.results.toList) (keepH' [] (mkPS 15 r_ring_Right y).h), false, true⟩
theorem m_ring_Right_eq (N : Nat) (l : (List Int)) : m_ring_Right (N + 1) (l) = cond (decide ((1000 : Int) < (((List.length l) : Nat) : Int)))
   (some false)
   (obind (m_slices_ContainsFunc_Lint_int_ring_RightF1 N l) fun z1 =>
    cond (!z1)
     (obind (m_ring_once_int N l) fun z2 =>
      some z2)
     (some false)) := by kernel_rfl
theorem c_ring_Right_ok (N : Nat) : (c_ring_Right N).ok Try.prog := exF_ok (T := T) (CT := ct_ring_Right) (N := N) (fun M => ⟨tOk, (ctAll_cons (c_slices_ContainsFunc_Lint_int_ring_RightF1_ok M) (ctAll_cons (c_ring_once_int_ok M) ctAll_nil)), mixed, bwAll⟩) Try.func80 (by kernel_rfl) (by kernel_rfl) p_ring_Right _ _ [s2] r_ring_Right false true [] (by kernel_rfl) (fun y => by kernel_rfl) (fun _ => ⟨rfl, rfl⟩) (fun y => by kernel_rfl) (m_ring_Right N) (fun x => by kernel_rfl)
noncomputable def ct_tower_high (N : Nat) : List Ctr := []
def p_tower_high : Pl := .z
def r_tower_high : PS := ⟨[(2, .h .b)], [], [.b]⟩
noncomputable def m_tower_high (N : Nat) : Int → Option (Bool) := exF T ct_tower_high N (bodyOf Try.f94) 9 p_tower_high [.h s1] [] [s1] r_tower_high
noncomputable def c_tower_high (N : Nat) : Ctr := ⟨94, [.h s1], [], [s1], Tup r_tower_high.c, m_tower_high N, fun y _ k => k (resG T (mkPS 9 r_tower_high y) Try.f94.results.toList) (keepH' [] (mkPS 9 r_tower_high y).h), false, true⟩
theorem m_tower_high_eq (N : Nat) (h : Int) : m_tower_high (N + 1) (h) = cond (decide ((1 : Int) ≤ h))
   (some (decide (h ≤ (8 : Int))))
   (some false) := by kernel_rfl
theorem c_tower_high_ok (N : Nat) : (c_tower_high N).ok Try.prog := exF_ok (T := T) (CT := ct_tower_high) (N := N) (fun M => ⟨tOk, ctAll_nil, mixed, bwAll⟩) Try.func94 (by kernel_rfl) (by kernel_rfl) p_tower_high _ _ [s1] r_tower_high false true [] (by kernel_rfl) (fun y => by kernel_rfl) (fun _ => ⟨rfl, rfl⟩) (fun y => by kernel_rfl) (m_tower_high N) (fun x => by kernel_rfl)
noncomputable def ct_tower_BuildF1 (N : Nat) : List Ctr := [c_tower_high N]
def p_tower_BuildF1 : Pl := .z
def r_tower_BuildF1 : PS := ⟨[(2, .h .b)], [], [.b]⟩
noncomputable def m_tower_BuildF1 (N : Nat) : Int → Option (Bool) := exF T ct_tower_BuildF1 N (bodyOf Try.f93) 6 p_tower_BuildF1 [.h s1] [] [s1] r_tower_BuildF1
noncomputable def c_tower_BuildF1 (N : Nat) : Ctr := ⟨93, [.h s1], [], [s1], Tup r_tower_BuildF1.c, m_tower_BuildF1 N, fun y _ k => k (resG T (mkPS 6 r_tower_BuildF1 y) Try.f93.results.toList) (keepH' [] (mkPS 6 r_tower_BuildF1 y).h), false, true⟩
theorem m_tower_BuildF1_eq (N : Nat) (h : Int) : m_tower_BuildF1 (N + 1) (h) = obind (m_tower_high N h) fun z1 =>
  some (!z1) := by kernel_rfl
theorem c_tower_BuildF1_ok (N : Nat) : (c_tower_BuildF1 N).ok Try.prog := exF_ok (T := T) (CT := ct_tower_BuildF1) (N := N) (fun M => ⟨tOk, (ctAll_cons (c_tower_high_ok M) ctAll_nil), mixed, bwAll⟩) Try.func93 (by kernel_rfl) (by kernel_rfl) p_tower_BuildF1 _ _ [s1] r_tower_BuildF1 false true [] (by kernel_rfl) (fun y => by kernel_rfl) (fun _ => ⟨rfl, rfl⟩) (fun y => by kernel_rfl) (m_tower_BuildF1 N) (fun x => by kernel_rfl)
noncomputable def ct_slices_IndexFunc_Lint_int_tower_BuildF1 (N : Nat) : List Ctr := [c_tower_BuildF1 N]
def i_slices_IndexFunc_Lint_int_tower_BuildF1_1 : PS := ⟨[(0, .h s2), (1, .k (.v (.func (.func 93) #[] #[]))), (7, .h s1), (8, .h s1)], [], [s2, s1, s1]⟩
def o_slices_IndexFunc_Lint_int_tower_BuildF1_1 : List (Exit × PS) := [((.exit 0), ⟨[], [], []⟩), (.ret, ⟨[(4, .h s1)], [], [s1]⟩)]
def p_slices_IndexFunc_Lint_int_tower_BuildF1_1 : Pl := .z
noncomputable def l_slices_IndexFunc_Lint_int_tower_BuildF1_1 (N : Nat) : Nat → (List Int) × Int × Int → Option ((Unit) ⊕ (Int)) := loopF (exC T (ct_slices_IndexFunc_Lint_int_tower_BuildF1 N) N (codeAt [1, 0, 1, 0, 0] (bodyOf Try.f104))) 19 i_slices_IndexFunc_Lint_int_tower_BuildF1_1 o_slices_IndexFunc_Lint_int_tower_BuildF1_1 p_slices_IndexFunc_Lint_int_tower_BuildF1_1
def p_slices_IndexFunc_Lint_int_tower_BuildF1 : Pl := (.n .z (.n (.n .z (.n (.loop i_slices_IndexFunc_Lint_int_tower_BuildF1_1 o_slices_IndexFunc_Lint_int_tower_BuildF1_1 p_slices_IndexFunc_Lint_int_tower_BuildF1_1) .z)) .z))
def r_slices_IndexFunc_Lint_int_tower_BuildF1 : PS := ⟨[(4, .h s1)], [], [s1]⟩
noncomputable def m_slices_IndexFunc_Lint_int_tower_BuildF1 (N : Nat) : (List Int) → Option (Int) := exF T ct_slices_IndexFunc_Lint_int_tower_BuildF1 N (bodyOf Try.f104) 19 p_slices_IndexFunc_Lint_int_tower_BuildF1 [.h s2, .k (.v (.func (.func 93) #[] #[]))] [] [s2] r_slices_IndexFunc_Lint_int_tower_BuildF1
noncomputable def c_slices_IndexFunc_Lint_int_tower_BuildF1 (N : Nat) : Ctr := ⟨104, [.h s2, .k (.v (.func (.func 93) #[] #[]))], [], [s2], Tup r_slices_IndexFunc_Lint_int_tower_BuildF1.c, m_slices_IndexFunc_Lint_int_tower_BuildF1 N, fun y _ k => k (resG T (mkPS 19 r_slices_IndexFunc_Lint_int_tower_BuildF1 y) Try.f104.results.toList) (keepH' [] (mkPS 19 r_slices_IndexFunc_Lint_int_tower_BuildF1 y).h), false, true⟩
theorem l_slices_IndexFunc_Lint_int_tower_BuildF1_1_s (N m : Nat) (s : (List Int)) (v7 : Int) (v8 : Int) : l_slices_IndexFunc_Lint_int_tower_BuildF1_1 N (m + 1) (s, v7, v8) = cond (decide (v8 < v7))
   (obind (nthI s v8) fun z1 =>
    obind (m_tower_BuildF1 N z1) fun z2 =>
    cond z2
     (some (.inr v8))
     ((l_slices_IndexFunc_Lint_int_tower_BuildF1_1 N m (s, (v7, (IntKind.wrap .i64 (v8 + (1 : Int))))))))
   (some (.inl ())) := by kernel_rfl
theorem m_slices_IndexFunc_Lint_int_tower_BuildF1_eq (N : Nat) (s : (List Int)) : m_slices_IndexFunc_Lint_int_tower_BuildF1 (N + 1) (s) = obind (l_slices_IndexFunc_Lint_int_tower_BuildF1_1 N N (s, ((((List.length s) : Nat) : Int), (0 : Int)))) fun z1 =>
  (match z1 with
  | .inl zy2 => some (-(1 : Int))
  | .inr zy3 => some zy3) := by kernel_rfl
theorem c_slices_IndexFunc_Lint_int_tower_BuildF1_ok (N : Nat) : (c_slices_IndexFunc_Lint_int_tower_BuildF1 N).ok Try.prog := exF_ok (T := T) (CT := ct_slices_IndexFunc_Lint_int_tower_BuildF1) (N := N) (fun M => ⟨tOk, (ctAll_cons (c_tower_BuildF1_ok M) ctAll_nil), mixed, bwAll⟩) Try.func104 (by kernel_rfl) (by kernel_rfl) p_slices_IndexFunc_Lint_int_tower_BuildF1 _ _ [s2] r_slices_IndexFunc_Lint_int_tower_BuildF1 false true [] (by kernel_rfl) (fun y => by kernel_rfl) (fun _ => ⟨rfl, rfl⟩) (fun y => by kernel_rfl) (m_slices_IndexFunc_Lint_int_tower_BuildF1 N) (fun x => by kernel_rfl)
noncomputable def ct_slices_ContainsFunc_Lint_int_tower_BuildF1 (N : Nat) : List Ctr := [c_slices_IndexFunc_Lint_int_tower_BuildF1 N]
def p_slices_ContainsFunc_Lint_int_tower_BuildF1 : Pl := .z
def r_slices_ContainsFunc_Lint_int_tower_BuildF1 : PS := ⟨[(4, .h .b)], [], [.b]⟩
noncomputable def m_slices_ContainsFunc_Lint_int_tower_BuildF1 (N : Nat) : (List Int) → Option (Bool) := exF T ct_slices_ContainsFunc_Lint_int_tower_BuildF1 N (bodyOf Try.f95) 9 p_slices_ContainsFunc_Lint_int_tower_BuildF1 [.h s2, .k (.v (.func (.func 93) #[] #[]))] [] [s2] r_slices_ContainsFunc_Lint_int_tower_BuildF1
noncomputable def c_slices_ContainsFunc_Lint_int_tower_BuildF1 (N : Nat) : Ctr := ⟨95, [.h s2, .k (.v (.func (.func 93) #[] #[]))], [], [s2], Tup r_slices_ContainsFunc_Lint_int_tower_BuildF1.c, m_slices_ContainsFunc_Lint_int_tower_BuildF1 N, fun y _ k => k (resG T (mkPS 9 r_slices_ContainsFunc_Lint_int_tower_BuildF1 y) Try.f95.results.toList) (keepH' [] (mkPS 9 r_slices_ContainsFunc_Lint_int_tower_BuildF1 y).h), false, true⟩
theorem m_slices_ContainsFunc_Lint_int_tower_BuildF1_eq (N : Nat) (s : (List Int)) : m_slices_ContainsFunc_Lint_int_tower_BuildF1 (N + 1) (s) = obind (m_slices_IndexFunc_Lint_int_tower_BuildF1 N s) fun z1 =>
  some (decide ((0 : Int) ≤ z1)) := by kernel_rfl
theorem c_slices_ContainsFunc_Lint_int_tower_BuildF1_ok (N : Nat) : (c_slices_ContainsFunc_Lint_int_tower_BuildF1 N).ok Try.prog := exF_ok (T := T) (CT := ct_slices_ContainsFunc_Lint_int_tower_BuildF1) (N := N) (fun M => ⟨tOk, (ctAll_cons (c_slices_IndexFunc_Lint_int_tower_BuildF1_ok M) ctAll_nil), mixed, bwAll⟩) Try.func95 (by kernel_rfl) (by kernel_rfl) p_slices_ContainsFunc_Lint_int_tower_BuildF1 _ _ [s2] r_slices_ContainsFunc_Lint_int_tower_BuildF1 false true [] (by kernel_rfl) (fun y => by kernel_rfl) (fun _ => ⟨rfl, rfl⟩) (fun y => by kernel_rfl) (m_slices_ContainsFunc_Lint_int_tower_BuildF1 N) (fun x => by kernel_rfl)
noncomputable def ct_slices_Clone_Lint_int (N : Nat) : List Ctr := []
def p_slices_Clone_Lint_int : Pl := .z
def r_slices_Clone_Lint_int : PS := ⟨[(2, .k (.ow 900))], [(900, .arr 3 s1 true)], [s2]⟩
noncomputable def m_slices_Clone_Lint_int (N : Nat) : (List Int) → Option ((List Int)) := exF T ct_slices_Clone_Lint_int N (bodyOf Try.f96) 8 p_slices_Clone_Lint_int [.h s2] [] [s2] r_slices_Clone_Lint_int
noncomputable def c_slices_Clone_Lint_int (N : Nat) : Ctr := ⟨96, [.h s2], [], [s2], Tup r_slices_Clone_Lint_int.c, m_slices_Clone_Lint_int N, fun y _ k => k (resG T (mkPS 8 r_slices_Clone_Lint_int y) Try.f96.results.toList) (keepH' [900] (mkPS 8 r_slices_Clone_Lint_int y).h), true, true⟩
theorem m_slices_Clone_Lint_int_eq (N : Nat) (s : (List Int)) : m_slices_Clone_Lint_int (N + 1) (s) = cond (isNilB s)
   (dem fun zb1 =>
    cond zb1
     (some [])
     (obind (appI (8 : Nat) [] s) fun z2 =>
      some z2))
   (obind (appI (8 : Nat) [] s) fun z3 =>
    some z3) := by kernel_rfl
theorem c_slices_Clone_Lint_int_ok (N : Nat) : (c_slices_Clone_Lint_int N).ok Try.prog := exF_ok (T := T) (CT := ct_slices_Clone_Lint_int) (N := N) (fun M => ⟨tOk, ctAll_nil, mixed, bwAll⟩) Try.func96 (by kernel_rfl) (by kernel_rfl) p_slices_Clone_Lint_int _ _ [s2] r_slices_Clone_Lint_int true true [900] (by kernel_rfl) (fun y => by kernel_rfl) (fun h => by cases h) (fun y => by kernel_rfl) (m_slices_Clone_Lint_int N) (fun x => by kernel_rfl)
noncomputable def ct_tower_Build (N : Nat) : List Ctr := [c_ring_Right N, c_slices_ContainsFunc_Lint_int_tower_BuildF1 N, c_slices_Clone_Lint_int N]
def i_tower_Build_3 : PS := ⟨[(1, .h s2), (4, .k (.pt 900 0)), (6, .h s1), (8, .k (.pt 901 0)), (9, .k (.pt 902 0)), (11, .h s1), (42, .h s1), (43, .h s1), (68, .h s1), (69, .h s1)], [(900, .box 35 [.k .nil, .k .nil, .k .nil]), (901, .box 35 [.k (.ow 903), .k (.ow 904), .k (.ow 905)]), (902, .arr 137 s1 true), (903, .arr 3 s1 true), (904, .arr 3 s1 true), (905, .arr 22 s2 true)], [s2, s1, s1, s1, s1, s1, s1, s2, s2, s2, s3]⟩
def o_tower_Build_3 : List (Exit × PS) := [((.exit 2), ⟨[(1, .h s2), (4, .k (.pt 900 0)), (6, .h s1), (8, .k (.pt 901 0)), (9, .k (.pt 902 0)), (42, .h s1), (43, .h s1)], [(900, .box 35 [.k .nil, .k .nil, .k .nil]), (901, .box 35 [.k (.ow 903), .k (.ow 904), .k (.ow 905)]), (902, .arr 137 s1 true), (903, .arr 3 s1 true), (904, .arr 3 s1 true), (905, .arr 22 s2 true)], [s2, s1, s1, s1, s2, s2, s2, s3]⟩)]
def p_tower_Build_3 : Pl := .z
noncomputable def l_tower_Build_3 (N : Nat) : Nat → (List Int) × Int × Int × Int × Int × Int × Int × (List Int) × (List Int) × (List Int) × (List (List Int)) → Option ((List Int) × Int × Int × Int × (List Int) × (List Int) × (List Int) × (List (List Int))) := loopF (exC T (ct_tower_Build N) N (codeAt [1, 1, 1, 1, 1, 1, 0, 1, 0, 0, 1, 1, 0, 0, 1, 1, 1, 1, 0, 0] (bodyOf Try.f75))) 78 i_tower_Build_3 o_tower_Build_3 p_tower_Build_3
def i_tower_Build_2 : PS := ⟨[(1, .h s2), (4, .k (.pt 900 0)), (6, .h s1), (8, .k (.pt 901 0)), (9, .k (.pt 902 0)), (10, .h s1), (11, .h s1), (42, .h s1), (43, .h s1)], [(900, .box 35 [.k .nil, .k .nil, .k .nil]), (901, .box 35 [.k (.ow 903), .k (.ow 904), .k (.ow 905)]), (902, .arr 137 s1 true), (903, .arr 3 s1 true), (904, .arr 3 s1 true), (905, .arr 22 s2 true)], [s2, s1, s1, s1, s1, s1, s2, s2, s2, s3]⟩
def o_tower_Build_2 : List (Exit × PS) := [(.normal, ⟨[(1, .h s2), (4, .k (.pt 900 0)), (6, .h s1), (8, .k (.pt 901 0)), (9, .k (.pt 902 0)), (11, .h s1), (42, .h s1), (43, .h s1)], [(900, .box 35 [.k .nil, .k .nil, .k .nil]), (901, .box 35 [.k (.ow 903), .k (.ow 904), .k (.ow 905)]), (902, .arr 137 s1 true), (903, .arr 3 s1 true), (904, .arr 3 s1 true), (905, .arr 22 s2 true)], [s2, s1, s1, s1, s1, s2, s2, s2, s3]⟩)]
def p_tower_Build_2 : Pl := .z
noncomputable def l_tower_Build_2 (N : Nat) : Nat → (List Int) × Int × Int × Int × Int × Int × (List Int) × (List Int) × (List Int) × (List (List Int)) → Option ((List Int) × Int × Int × Int × Int × (List Int) × (List Int) × (List Int) × (List (List Int))) := joinF (exC0 T (ct_tower_Build N) N (codeAt [1, 1, 1, 1, 1, 1, 0, 1, 0, 0, 1, 1, 0, 0, 1, 1, 0] (bodyOf Try.f75))) 78 i_tower_Build_2 o_tower_Build_2 p_tower_Build_2
def i_tower_Build_1 : PS := ⟨[(1, .h s2), (4, .k (.pt 900 0)), (6, .h s1), (8, .k (.pt 901 0)), (9, .k (.pt 902 0)), (42, .h s1), (43, .h s1)], [(900, .box 35 [.k .nil, .k .nil, .k .nil]), (901, .box 35 [.k (.ow 903), .k (.ow 904), .k (.ow 905)]), (902, .arr 137 s1 true), (903, .arr 3 s1 true), (904, .arr 3 s1 true), (905, .arr 22 s2 true)], [s2, s1, s1, s1, s2, s2, s2, s3]⟩
def o_tower_Build_1 : List (Exit × PS) := [((.exit 0), ⟨[(4, .k (.pt 900 0)), (8, .k (.pt 901 0))], [(900, .box 35 [.k .nil, .k .nil, .k .nil]), (901, .box 35 [.k (.ow 902), .k (.ow 903), .k (.ow 904)]), (902, .arr 3 s1 true), (903, .arr 3 s1 true), (904, .arr 22 s2 true)], [s2, s2, s3]⟩)]
def p_tower_Build_1 : Pl := (.n .z (.n .z (.n (.n (.n .z (.n .z (.n (.join i_tower_Build_2 o_tower_Build_2 p_tower_Build_2) (.n .z (.n (.loop i_tower_Build_3 o_tower_Build_3 p_tower_Build_3) .z))))) .z) .z)))
noncomputable def l_tower_Build_1 (N : Nat) : Nat → (List Int) × Int × Int × Int × (List Int) × (List Int) × (List Int) × (List (List Int)) → Option ((List Int) × (List Int) × (List (List Int))) := loopF (exC T (ct_tower_Build N) N (codeAt [1, 1, 1, 1, 1, 1, 0, 1, 0, 0] (bodyOf Try.f75))) 78 i_tower_Build_1 o_tower_Build_1 p_tower_Build_1
def p_tower_Build : Pl := (.n .z (.n .z (.n .z (.n .z (.n .z (.n .z (.n (.n .z (.n (.loop i_tower_Build_1 o_tower_Build_1 p_tower_Build_1) .z)) .z)))))))
def r_tower_Build : PS := ⟨[(4, .k (.pt 900 0)), (5, .h s1)], [(900, .box 35 [.h s2, .h s2, .h s3])], [s1, s2, s2, s3]⟩
noncomputable def m_tower_Build (N : Nat) : (List Int) × (List Int) → Option (Int × (List Int) × (List Int) × (List (List Int))) := exF T ct_tower_Build N (bodyOf Try.f75) 78 p_tower_Build [.h s2, .h s2] [] [s2, s2] r_tower_Build
noncomputable def c_tower_Build (N : Nat) : Ctr := ⟨75, [.h s2, .h s2], [], [s2, s2], Tup r_tower_Build.c, m_tower_Build N, fun y _ k => k (resG T (mkPS 78 r_tower_Build y) Try.f75.results.toList) (keepH' [] (mkPS 78 r_tower_Build y).h), false, false⟩
theorem l_tower_Build_3_s (N m : Nat) (heights : (List Int)) (n : Int) (i : Int) (v42 : Int) (v43 : Int) (v68 : Int) (v69 : Int) (behind : (List Int)) (v903 : (List Int)) (v904 : (List Int)) (v905 : (List (List Int))) : l_tower_Build_3 N (m + 1) (heights, n, i, v42, v43, v68, v69, behind, v903, v904, v905) = cond (decide (v69 < v68))
   (obind (nthI (List.range (8 : Nat)) v69) fun z1 =>
    obind (nthI behind v69) fun z2 =>
    obind (nthI behind v69) fun z3 =>
    (l_tower_Build_3 N m (heights, (n, (i, (v42, (v43, (v68, ((IntKind.wrap .i64 (v69 + (1 : Int))), ((List.set behind (Int.toNat v69) i), (v903, (v904, v905))))))))))))
   (some (heights, (n, (v42, (v43, (behind, (v903, (v904, v905)))))))) := by kernel_rfl
theorem l_tower_Build_2_s (N m : Nat) (heights : (List Int)) (n : Int) (k : Int) (i : Int) (v42 : Int) (v43 : Int) (behind : (List Int)) (v903 : (List Int)) (v904 : (List Int)) (v905 : (List (List Int))) : l_tower_Build_2 N (m + 1) (heights, n, k, i, v42, v43, behind, v903, v904, v905) = cond (decide (n ≤ k))
   (obind (nthI heights i) fun z1 =>
    obind (subI (List.replicate (8 : Nat) ()) (0 : Int) z1) fun z2 =>
    cond ((Nat.ble ((Int.toNat (0 : Int)) + (Int.toNat (z1 - (0 : Int)))) (List.length behind)) && true)
     (obind (m_slices_Clone_Lint_int N (List.take (Int.toNat (z1 - (0 : Int))) (List.drop (Int.toNat (0 : Int)) behind))) fun z3 =>
      obind (nthI v905 i) fun z4 =>
      obind (nthI v905 i) fun z5 =>
      some (heights, (n, (i, (v42, (v43, (behind, (v903, (v904, (List.set v905 (Int.toNat i) z3))))))))))
     (none))
   (some (heights, (n, (i, (v42, (v43, (behind, (v903, (v904, v905))))))))) := by kernel_rfl
theorem l_tower_Build_1_s (N m : Nat) (heights : (List Int)) (n : Int) (v42 : Int) (v43 : Int) (behind : (List Int)) (v903 : (List Int)) (v904 : (List Int)) (v905 : (List (List Int))) : l_tower_Build_1 N (m + 1) (heights, n, v42, v43, behind, v903, v904, v905) = cond (decide (v43 < v42))
   (obind (remI v43 n) fun z1 =>
    obind (l_tower_Build_2 N N (heights, (n, (v43, ((IntKind.wrap .i64 ((IntKind.wrap .i64 (n - (1 : Int))) - z1)), (v42, (v43, (behind, (v903, (v904, v905)))))))))) fun z2 =>
    obind (nthI z2.1 z2.2.2.1) fun z3 =>
    obind (l_tower_Build_3 N N (z2.1, (z2.2.1, (z2.2.2.1, (z2.2.2.2.1, (z2.2.2.2.2.1, (z3, ((0 : Int), (z2.2.2.2.2.2.1, (z2.2.2.2.2.2.2.1, (z2.2.2.2.2.2.2.2.1, z2.2.2.2.2.2.2.2.2))))))))))) fun z4 =>
    (l_tower_Build_1 N m (z4.1, (z4.2.1, (z4.2.2.1, ((IntKind.wrap .i64 (z4.2.2.2.1 + (1 : Int))), (z4.2.2.2.2.1, (z4.2.2.2.2.2.1, (z4.2.2.2.2.2.2.1, z4.2.2.2.2.2.2.2)))))))))
   (some (v903, (v904, v905))) := by kernel_rfl
theorem m_tower_Build_eq (N : Nat) (tokens : (List Int)) (heights : (List Int)) : m_tower_Build (N + 1) (tokens, heights) = cond (decide ((((List.length tokens) : Nat) : Int) = (0 : Int)))
   (some ((1 : Int), ([], ([], []))))
   (cond (!(decide ((((List.length heights) : Nat) : Int) = (((List.length tokens) : Nat) : Int))))
     (some ((1 : Int), ([], ([], []))))
     (obind (m_ring_Right N tokens) fun z1 =>
      cond (!z1)
       (some ((1 : Int), ([], ([], []))))
       (obind (m_slices_ContainsFunc_Lint_int_tower_BuildF1 N heights) fun z2 =>
        cond z2
         (some ((1 : Int), ([], ([], []))))
         (obind (m_slices_Clone_Lint_int N tokens) fun z3 =>
          obind (m_slices_Clone_Lint_int N heights) fun z4 =>
          obind (makI (((List.length tokens) : Nat) : Int) (24 : Nat)) fun z5 =>
          obind (l_tower_Build_1 N N (heights, ((((List.length tokens) : Nat) : Int), ((IntKind.wrap .i64 ((2 : Int) * (((List.length tokens) : Nat) : Int))), ((0 : Int), ((List.replicate (8 : Nat) (0 : Int)), (z3, (z4, (List.replicate z5 []))))))))) fun z6 =>
          some ((0 : Int), (z6.1, (z6.2.1, z6.2.2))))))) := by kernel_rfl
theorem c_tower_Build_ok (N : Nat) : (c_tower_Build N).ok Try.prog := exF_ok (T := T) (CT := ct_tower_Build) (N := N) (fun M => ⟨tOk, (ctAll_cons (c_ring_Right_ok M) (ctAll_cons (c_slices_ContainsFunc_Lint_int_tower_BuildF1_ok M) (ctAll_cons (c_slices_Clone_Lint_int_ok M) ctAll_nil))), mixed, bwAll⟩) Try.func75 (by kernel_rfl) (by kernel_rfl) p_tower_Build _ _ [s2, s2] r_tower_Build false false [] (by kernel_rfl) (fun y => by kernel_rfl) (fun _ => ⟨rfl, rfl⟩) (fun y => by kernel_rfl) (m_tower_Build N) (fun x => by kernel_rfl)
noncomputable def ct_slices_Equal_Lint_int (N : Nat) : List Ctr := []
def i_slices_Equal_Lint_int_1 : PS := ⟨[(0, .h s2), (1, .h s2), (12, .h s1), (13, .h s1)], [], [s2, s2, s1, s1]⟩
def o_slices_Equal_Lint_int_1 : List (Exit × PS) := [((.exit 0), ⟨[], [], []⟩), (.ret, ⟨[(4, .h .b)], [], [.b]⟩)]
def p_slices_Equal_Lint_int_1 : Pl := .z
noncomputable def l_slices_Equal_Lint_int_1 (N : Nat) : Nat → (List Int) × (List Int) × Int × Int → Option ((Unit) ⊕ (Bool)) := loopF (exC T (ct_slices_Equal_Lint_int N) N (codeAt [1, 1, 0, 1, 0, 0] (bodyOf Try.f97))) 26 i_slices_Equal_Lint_int_1 o_slices_Equal_Lint_int_1 p_slices_Equal_Lint_int_1
def p_slices_Equal_Lint_int : Pl := (.n .z (.n .z (.n (.n .z (.n (.loop i_slices_Equal_Lint_int_1 o_slices_Equal_Lint_int_1 p_slices_Equal_Lint_int_1) .z)) .z)))
def r_slices_Equal_Lint_int : PS := ⟨[(4, .h .b)], [], [.b]⟩
noncomputable def m_slices_Equal_Lint_int (N : Nat) : (List Int) × (List Int) → Option (Bool) := exF T ct_slices_Equal_Lint_int N (bodyOf Try.f97) 26 p_slices_Equal_Lint_int [.h s2, .h s2] [] [s2, s2] r_slices_Equal_Lint_int
noncomputable def c_slices_Equal_Lint_int (N : Nat) : Ctr := ⟨97, [.h s2, .h s2], [], [s2, s2], Tup r_slices_Equal_Lint_int.c, m_slices_Equal_Lint_int N, fun y _ k => k (resG T (mkPS 26 r_slices_Equal_Lint_int y) Try.f97.results.toList) (keepH' [] (mkPS 26 r_slices_Equal_Lint_int y).h), false, true⟩
theorem l_slices_Equal_Lint_int_1_s (N m : Nat) (s1 : (List Int)) (s2 : (List Int)) (v12 : Int) (v13 : Int) : l_slices_Equal_Lint_int_1 N (m + 1) (s1, s2, v12, v13) = cond (decide (v13 < v12))
   (obind (nthI s1 v13) fun z1 =>
    obind (nthI s2 v13) fun z2 =>
    cond (!(decide (z1 = z2)))
     (some (.inr false))
     ((l_slices_Equal_Lint_int_1 N m (s1, (s2, (v12, (IntKind.wrap .i64 (v13 + (1 : Int)))))))))
   (some (.inl ())) := by kernel_rfl
theorem m_slices_Equal_Lint_int_eq (N : Nat) (s1 : (List Int)) (s2 : (List Int)) : m_slices_Equal_Lint_int (N + 1) (s1, s2) = cond (!(decide ((((List.length s1) : Nat) : Int) = (((List.length s2) : Nat) : Int))))
   (some false)
   (obind (l_slices_Equal_Lint_int_1 N N (s1, (s2, ((((List.length s1) : Nat) : Int), (0 : Int))))) fun z1 =>
    (match z1 with
    | .inl zy2 => some true
    | .inr zy3 => some zy3)) := by kernel_rfl
theorem c_slices_Equal_Lint_int_ok (N : Nat) : (c_slices_Equal_Lint_int N).ok Try.prog := exF_ok (T := T) (CT := ct_slices_Equal_Lint_int) (N := N) (fun M => ⟨tOk, ctAll_nil, mixed, bwAll⟩) Try.func97 (by kernel_rfl) (by kernel_rfl) p_slices_Equal_Lint_int _ _ [s2, s2] r_slices_Equal_Lint_int false true [] (by kernel_rfl) (fun y => by kernel_rfl) (fun _ => ⟨rfl, rfl⟩) (fun y => by kernel_rfl) (m_slices_Equal_Lint_int N) (fun x => by kernel_rfl)
noncomputable def ct_slices_EqualFunc_LLint_LLint_Lint_Lint_slices_Equal_Lint_int (N : Nat) : List Ctr := [c_slices_Equal_Lint_int N]
def i_slices_EqualFunc_LLint_LLint_Lint_Lint_slices_Equal_Lint_int_1 : PS := ⟨[(1, .h s3), (2, .k (.v (.func (.func 97) #[] #[]))), (15, .h s3), (16, .h s1), (17, .h s1)], [], [s3, s3, s1, s1]⟩
def o_slices_EqualFunc_LLint_LLint_Lint_Lint_slices_Equal_Lint_int_1 : List (Exit × PS) := [((.exit 0), ⟨[], [], []⟩), (.ret, ⟨[(6, .h .b)], [], [.b]⟩)]
def p_slices_EqualFunc_LLint_LLint_Lint_Lint_slices_Equal_Lint_int_1 : Pl := .z
noncomputable def l_slices_EqualFunc_LLint_LLint_Lint_Lint_slices_Equal_Lint_int_1 (N : Nat) : Nat → (List (List Int)) × (List (List Int)) × Int × Int → Option ((Unit) ⊕ (Bool)) := loopF (exC T (ct_slices_EqualFunc_LLint_LLint_Lint_Lint_slices_Equal_Lint_int N) N (codeAt [1, 1, 0, 1, 0, 0] (bodyOf Try.f98))) 32 i_slices_EqualFunc_LLint_LLint_Lint_Lint_slices_Equal_Lint_int_1 o_slices_EqualFunc_LLint_LLint_Lint_Lint_slices_Equal_Lint_int_1 p_slices_EqualFunc_LLint_LLint_Lint_Lint_slices_Equal_Lint_int_1
def p_slices_EqualFunc_LLint_LLint_Lint_Lint_slices_Equal_Lint_int : Pl := (.n .z (.n .z (.n (.n .z (.n (.loop i_slices_EqualFunc_LLint_LLint_Lint_Lint_slices_Equal_Lint_int_1 o_slices_EqualFunc_LLint_LLint_Lint_Lint_slices_Equal_Lint_int_1 p_slices_EqualFunc_LLint_LLint_Lint_Lint_slices_Equal_Lint_int_1) .z)) .z)))
def r_slices_EqualFunc_LLint_LLint_Lint_Lint_slices_Equal_Lint_int : PS := ⟨[(6, .h .b)], [], [.b]⟩
noncomputable def m_slices_EqualFunc_LLint_LLint_Lint_Lint_slices_Equal_Lint_int (N : Nat) : (List (List Int)) × (List (List Int)) → Option (Bool) := exF T ct_slices_EqualFunc_LLint_LLint_Lint_Lint_slices_Equal_Lint_int N (bodyOf Try.f98) 32 p_slices_EqualFunc_LLint_LLint_Lint_Lint_slices_Equal_Lint_int [.h s3, .h s3, .k (.v (.func (.func 97) #[] #[]))] [] [s3, s3] r_slices_EqualFunc_LLint_LLint_Lint_Lint_slices_Equal_Lint_int
noncomputable def c_slices_EqualFunc_LLint_LLint_Lint_Lint_slices_Equal_Lint_int (N : Nat) : Ctr := ⟨98, [.h s3, .h s3, .k (.v (.func (.func 97) #[] #[]))], [], [s3, s3], Tup r_slices_EqualFunc_LLint_LLint_Lint_Lint_slices_Equal_Lint_int.c, m_slices_EqualFunc_LLint_LLint_Lint_Lint_slices_Equal_Lint_int N, fun y _ k => k (resG T (mkPS 32 r_slices_EqualFunc_LLint_LLint_Lint_Lint_slices_Equal_Lint_int y) Try.f98.results.toList) (keepH' [] (mkPS 32 r_slices_EqualFunc_LLint_LLint_Lint_Lint_slices_Equal_Lint_int y).h), false, true⟩
theorem l_slices_EqualFunc_LLint_LLint_Lint_Lint_slices_Equal_Lint_int_1_s (N m : Nat) (s2 : (List (List Int))) (v15 : (List (List Int))) (v16 : Int) (v17 : Int) : l_slices_EqualFunc_LLint_LLint_Lint_Lint_slices_Equal_Lint_int_1 N (m + 1) (s2, v15, v16, v17) = cond (decide (v17 < v16))
   (obind (nthI v15 v17) fun z1 =>
    obind (nthI s2 v17) fun z2 =>
    obind (m_slices_Equal_Lint_int N (z1, z2)) fun z3 =>
    cond (!z3)
     (some (.inr false))
     ((l_slices_EqualFunc_LLint_LLint_Lint_Lint_slices_Equal_Lint_int_1 N m (s2, (v15, (v16, (IntKind.wrap .i64 (v17 + (1 : Int)))))))))
   (some (.inl ())) := by kernel_rfl
theorem m_slices_EqualFunc_LLint_LLint_Lint_Lint_slices_Equal_Lint_int_eq (N : Nat) (s1 : (List (List Int))) (s2 : (List (List Int))) : m_slices_EqualFunc_LLint_LLint_Lint_Lint_slices_Equal_Lint_int (N + 1) (s1, s2) = cond (!(decide ((((List.length s1) : Nat) : Int) = (((List.length s2) : Nat) : Int))))
   (some false)
   (obind (l_slices_EqualFunc_LLint_LLint_Lint_Lint_slices_Equal_Lint_int_1 N N (s2, (s1, ((((List.length s1) : Nat) : Int), (0 : Int))))) fun z1 =>
    (match z1 with
    | .inl zy2 => some true
    | .inr zy3 => some zy3)) := by kernel_rfl
theorem c_slices_EqualFunc_LLint_LLint_Lint_Lint_slices_Equal_Lint_int_ok (N : Nat) : (c_slices_EqualFunc_LLint_LLint_Lint_Lint_slices_Equal_Lint_int N).ok Try.prog := exF_ok (T := T) (CT := ct_slices_EqualFunc_LLint_LLint_Lint_Lint_slices_Equal_Lint_int) (N := N) (fun M => ⟨tOk, (ctAll_cons (c_slices_Equal_Lint_int_ok M) ctAll_nil), mixed, bwAll⟩) Try.func98 (by kernel_rfl) (by kernel_rfl) p_slices_EqualFunc_LLint_LLint_Lint_Lint_slices_Equal_Lint_int _ _ [s3, s3] r_slices_EqualFunc_LLint_LLint_Lint_Lint_slices_Equal_Lint_int false true [] (by kernel_rfl) (fun y => by kernel_rfl) (fun _ => ⟨rfl, rfl⟩) (fun y => by kernel_rfl) (m_slices_EqualFunc_LLint_LLint_Lint_Lint_slices_Equal_Lint_int N) (fun x => by kernel_rfl)
noncomputable def ct_tower_Same (N : Nat) : List Ctr := [c_slices_Equal_Lint_int N, c_slices_EqualFunc_LLint_LLint_Lint_Lint_slices_Equal_Lint_int N]
def p_tower_Same : Pl := .z
def r_tower_Same : PS := ⟨[(4, .h .b)], [], [.b]⟩
noncomputable def m_tower_Same (N : Nat) : (List Int) × (List Int) × (List (List Int)) × (List Int) × (List Int) × (List (List Int)) → Option (Bool) := exF T ct_tower_Same N (bodyOf Try.f76) 24 p_tower_Same [.ag [.h s2, .h s2, .h s3], .ag [.h s2, .h s2, .h s3]] [] [s2, s2, s3, s2, s2, s3] r_tower_Same
noncomputable def c_tower_Same (N : Nat) : Ctr := ⟨76, [.ag [.h s2, .h s2, .h s3], .ag [.h s2, .h s2, .h s3]], [], [s2, s2, s3, s2, s2, s3], Tup r_tower_Same.c, m_tower_Same N, fun y _ k => k (resG T (mkPS 24 r_tower_Same y) Try.f76.results.toList) (keepH' [] (mkPS 24 r_tower_Same y).h), false, true⟩
theorem m_tower_Same_eq (N : Nat) (a : (List Int)) (a2 : (List Int)) (a3 : (List (List Int))) (b : (List Int)) (b2 : (List Int)) (b3 : (List (List Int))) : m_tower_Same (N + 1) (a, a2, a3, b, b2, b3) = obind (m_slices_Equal_Lint_int N (a, b)) fun z1 =>
  cond z1
   (obind (m_slices_Equal_Lint_int N (a2, b2)) fun z2 =>
    cond z2
     (obind (m_slices_EqualFunc_LLint_LLint_Lint_Lint_slices_Equal_Lint_int N (a3, b3)) fun z3 =>
      some z3)
     (some false))
   (some false) := by kernel_rfl
theorem c_tower_Same_ok (N : Nat) : (c_tower_Same N).ok Try.prog := exF_ok (T := T) (CT := ct_tower_Same) (N := N) (fun M => ⟨tOk, (ctAll_cons (c_slices_Equal_Lint_int_ok M) (ctAll_cons (c_slices_EqualFunc_LLint_LLint_Lint_Lint_slices_Equal_Lint_int_ok M) ctAll_nil)), mixed, bwAll⟩) Try.func76 (by kernel_rfl) (by kernel_rfl) p_tower_Same _ _ [s2, s2, s3, s2, s2, s3] r_tower_Same false true [] (by kernel_rfl) (fun y => by kernel_rfl) (fun _ => ⟨rfl, rfl⟩) (fun y => by kernel_rfl) (m_tower_Same N) (fun x => by kernel_rfl)
noncomputable def ct_tower_Right (N : Nat) : List Ctr := [c_tower_Build N, c_tower_Same N]
def p_tower_Right : Pl := .z
def r_tower_Right : PS := ⟨[(2, .h .b)], [], [.b]⟩
noncomputable def m_tower_Right (N : Nat) : (List Int) × (List Int) × (List (List Int)) → Option (Bool) := exF T ct_tower_Right N (bodyOf Try.f52) 20 p_tower_Right [.ag [.h s2, .h s2, .h s3]] [] [s2, s2, s3] r_tower_Right
noncomputable def c_tower_Right (N : Nat) : Ctr := ⟨52, [.ag [.h s2, .h s2, .h s3]], [], [s2, s2, s3], Tup r_tower_Right.c, m_tower_Right N, fun y _ k => k (resG T (mkPS 20 r_tower_Right y) Try.f52.results.toList) (keepH' [] (mkPS 20 r_tower_Right y).h), false, true⟩
theorem m_tower_Right_eq (N : Nat) (t : (List Int)) (t2 : (List Int)) (t3 : (List (List Int))) : m_tower_Right (N + 1) (t, t2, t3) = obind (m_tower_Build N (t, t2)) fun z1 =>
  cond (decide (z1.1 = (0 : Int)))
   (obind (m_tower_Same N (z1.2.1, (z1.2.2.1, (z1.2.2.2, (t, (t2, t3)))))) fun z2 =>
    some z2)
   (some false) := by kernel_rfl
theorem c_tower_Right_ok (N : Nat) : (c_tower_Right N).ok Try.prog := exF_ok (T := T) (CT := ct_tower_Right) (N := N) (fun M => ⟨tOk, (ctAll_cons (c_tower_Build_ok M) (ctAll_cons (c_tower_Same_ok M) ctAll_nil)), mixed, bwAll⟩) Try.func52 (by kernel_rfl) (by kernel_rfl) p_tower_Right _ _ [s2, s2, s3] r_tower_Right false true [] (by kernel_rfl) (fun y => by kernel_rfl) (fun _ => ⟨rfl, rfl⟩) (fun y => by kernel_rfl) (m_tower_Right N) (fun x => by kernel_rfl)
noncomputable def ct_slices_Clip_Lint_int (N : Nat) : List Ctr := []
def p_slices_Clip_Lint_int : Pl := .z
def r_slices_Clip_Lint_int : PS := ⟨[(2, .t s1)], [], [s2]⟩
noncomputable def m_slices_Clip_Lint_int (N : Nat) : (List Int) → Option ((List Int)) := exF T ct_slices_Clip_Lint_int N (bodyOf Try.f70) 9 p_slices_Clip_Lint_int [.h s2] [] [s2] r_slices_Clip_Lint_int
noncomputable def c_slices_Clip_Lint_int (N : Nat) : Ctr := ⟨70, [.h s2], [], [s2], Tup r_slices_Clip_Lint_int.c, m_slices_Clip_Lint_int N, fun y _ k => k (resG T (mkPS 9 r_slices_Clip_Lint_int y) Try.f70.results.toList) (keepH' [] (mkPS 9 r_slices_Clip_Lint_int y).h), false, false⟩
theorem m_slices_Clip_Lint_int_eq (N : Nat) (s : (List Int)) : m_slices_Clip_Lint_int (N + 1) (s) = obind (subM s (0 : Int) (((List.length s) : Nat) : Int) (((List.length s) : Nat) : Int)) fun z1 =>
  cond (decide ((((List.length s) : Nat) : Int) = (((List.length s) : Nat) : Int)))
   (some z1)
   (none) := by kernel_rfl
theorem c_slices_Clip_Lint_int_ok (N : Nat) : (c_slices_Clip_Lint_int N).ok Try.prog := exF_ok (T := T) (CT := ct_slices_Clip_Lint_int) (N := N) (fun M => ⟨tOk, ctAll_nil, mixed, bwAll⟩) Try.func70 (by kernel_rfl) (by kernel_rfl) p_slices_Clip_Lint_int _ _ [s2] r_slices_Clip_Lint_int false false [] (by kernel_rfl) (fun y => by kernel_rfl) (fun _ => ⟨rfl, rfl⟩) (fun y => by kernel_rfl) (m_slices_Clip_Lint_int N) (fun x => by kernel_rfl)
noncomputable def ct_pool_Take (N : Nat) : List Ctr := [c_pool_Right N, c_slices_Clip_Lint_int N, c_slices_Clone_Lint_int N]
def p_pool_Take : Pl := .z
def r_pool_Take : PS := ⟨[(2, .k (.pt 900 0)), (3, .k (.pt 901 0)), (4, .h s1)], [(900, .box 24 [.h s2, .h s2]), (901, .box 29 [.h s1, .h s1])], [s1, s2, s2, s1, s1]⟩
noncomputable def m_pool_Take (N : Nat) : (List Int) × (List Int) → Option (Int × (List Int) × (List Int) × Int × Int) := exF T ct_pool_Take N (bodyOf Try.f77) 62 p_pool_Take [.ag [.h s2, .h s2]] [] [s2, s2] r_pool_Take
noncomputable def c_pool_Take (N : Nat) : Ctr := ⟨77, [.ag [.h s2, .h s2]], [], [s2, s2], Tup r_pool_Take.c, m_pool_Take N, fun y _ k => k (resG T (mkPS 62 r_pool_Take y) Try.f77.results.toList) (keepH' [] (mkPS 62 r_pool_Take y).h), false, false⟩
theorem m_pool_Take_eq (N : Nat) (p : (List Int)) (p2 : (List Int)) : m_pool_Take (N + 1) (p, p2) = obind (m_pool_Right N (p, p2)) fun z1 =>
  cond (!z1)
   (some ((1 : Int), (p, (p2, ((0 : Int), (0 : Int))))))
   (cond (decide ((IntKind.wrap .i64 ((((List.length p2) : Nat) : Int) - (1 : Int))) < (0 : Int)))
     (some ((2 : Int), (p, (p2, ((0 : Int), (0 : Int))))))
     (obind (nthI p2 (IntKind.wrap .i64 ((((List.length p2) : Nat) : Int) - (1 : Int)))) fun z2 =>
      obind (nthI p z2) fun z3 =>
      cond (decide (z3 = (1073741824 : Int)))
       (some ((2 : Int), (p, (p2, ((0 : Int), (0 : Int))))))
       (obind (nthI p2 (IntKind.wrap .i64 ((((List.length p2) : Nat) : Int) - (1 : Int)))) fun z4 =>
        obind (subI p2 (0 : Int) (IntKind.wrap .i64 ((((List.length p2) : Nat) : Int) - (1 : Int)))) fun z5 =>
        obind (m_slices_Clip_Lint_int N z5) fun z6 =>
        obind (m_slices_Clone_Lint_int N p) fun z7 =>
        obind (nthI z7 z4) fun z8 =>
        obind (nthI z7 z4) fun z9 =>
        obind (nthI z7 z4) fun z10 =>
        obind (nthI z7 z4) fun z11 =>
        obind (nthI (List.set z7 (Int.toNat z4) (IntKind.wrap .i64 (z9 + (1 : Int)))) z4) fun z12 =>
        obind (nthI (List.set z7 (Int.toNat z4) (IntKind.wrap .i64 (z9 + (1 : Int)))) z4) fun z13 =>
        some ((0 : Int), ((List.set z7 (Int.toNat z4) (IntKind.wrap .i64 (z9 + (1 : Int)))), (z6, (z4, z13))))))) := by kernel_rfl
theorem c_pool_Take_ok (N : Nat) : (c_pool_Take N).ok Try.prog := exF_ok (T := T) (CT := ct_pool_Take) (N := N) (fun M => ⟨tOk, (ctAll_cons (c_pool_Right_ok M) (ctAll_cons (c_slices_Clip_Lint_int_ok M) (ctAll_cons (c_slices_Clone_Lint_int_ok M) ctAll_nil))), mixed, bwAll⟩) Try.func77 (by kernel_rfl) (by kernel_rfl) p_pool_Take _ _ [s2, s2] r_pool_Take false false [] (by kernel_rfl) (fun y => by kernel_rfl) (fun _ => ⟨rfl, rfl⟩) (fun y => by kernel_rfl) (m_pool_Take N) (fun x => by kernel_rfl)
noncomputable def ct_store_taken (N : Nat) : List Ctr := [c_pool_Take N]
def i_store_taken_1 : PS := ⟨[(2, .k (.pt 900 0)), (4, .k (.pt 901 0)), (5, .k (.ow 902)), (8, .h s1), (9, .h s1)], [(900, .box 24 [.h s2, .h s2]), (901, .box 24 [.k .nil, .k .nil]), (902, .arr 29 s4 true)], [s1, s1, s2, s2, s5]⟩
def o_store_taken_1 : List (Exit × PS) := [((.exit 0), ⟨[(2, .k (.pt 900 0)), (4, .k (.pt 901 0)), (5, .k (.ow 902))], [(900, .box 24 [.h s2, .h s2]), (901, .box 24 [.k .nil, .k .nil]), (902, .arr 29 s4 true)], [s2, s2, s5]⟩), (.ret, ⟨[(4, .k (.pt 900 0)), (5, .k .nil), (6, .h s1)], [(900, .box 24 [.h s2, .h s2])], [s1, s2, s2]⟩)]
def p_store_taken_1 : Pl := .z
noncomputable def l_store_taken_1 (N : Nat) : Nat → Int × Int × (List Int) × (List Int) × (List (Int × Int)) → Option (((List Int) × (List Int) × (List (Int × Int))) ⊕ (Int × (List Int) × (List Int))) := loopF (exC T (ct_store_taken N) N (codeAt [1, 0, 1, 0, 0] (bodyOf Try.f53))) 28 i_store_taken_1 o_store_taken_1 p_store_taken_1
def p_store_taken : Pl := (.n .z (.n (.n .z (.n (.loop i_store_taken_1 o_store_taken_1 p_store_taken_1) .z)) .z))
def r_store_taken : PS := ⟨[(4, .k (.pt 900 0)), (5, .k (.ow 901)), (6, .h s1)], [(900, .box 24 [.h s2, .h s2]), (901, .arr 29 s4 true)], [s1, s2, s2, s5]⟩
noncomputable def m_store_taken (N : Nat) : (List Int) × (List Int) × Int → Option (Int × (List Int) × (List Int) × (List (Int × Int))) := exF T ct_store_taken N (bodyOf Try.f53) 28 p_store_taken [.ag [.h s2, .h s2], .h s1] [] [s2, s2, s1] r_store_taken
noncomputable def c_store_taken (N : Nat) : Ctr := ⟨53, [.ag [.h s2, .h s2], .h s1], [], [s2, s2, s1], Tup r_store_taken.c, m_store_taken N, fun y _ k => k (resG T (mkPS 28 r_store_taken y) Try.f53.results.toList) (keepH' [901] (mkPS 28 r_store_taken y).h), true, false⟩
theorem l_store_taken_1_s (N m : Nat) (v8 : Int) (v9 : Int) (p : (List Int)) (p2 : (List Int)) (l : (List (Int × Int))) : l_store_taken_1 N (m + 1) (v8, v9, p, p2, l) = cond (decide (v9 < v8))
   (obind (m_pool_Take N (p, p2)) fun z1 =>
    cond (!(decide (z1.1 = (0 : Int))))
     (some (.inr (z1.1, (z1.2.1, z1.2.2.1))))
     (obind (appI (16 : Nat) l [(z1.2.2.2.1, z1.2.2.2.2)]) fun z2 =>
      (l_store_taken_1 N m (v8, ((IntKind.wrap .i64 (v9 + (1 : Int))), (z1.2.1, (z1.2.2.1, z2)))))))
   (some (.inl (p, (p2, l)))) := by kernel_rfl
theorem m_store_taken_eq (N : Nat) (p : (List Int)) (p2 : (List Int)) (n : Int) : m_store_taken (N + 1) (p, p2, n) = obind (l_store_taken_1 N N (n, ((0 : Int), (p, (p2, []))))) fun z1 =>
  (match z1 with
  | .inl zy2 => some ((0 : Int), (zy2.1, (zy2.2.1, zy2.2.2)))
  | .inr zy3 => some (zy3.1, (zy3.2.1, (zy3.2.2, [])))) := by kernel_rfl
theorem c_store_taken_ok (N : Nat) : (c_store_taken N).ok Try.prog := exF_ok (T := T) (CT := ct_store_taken) (N := N) (fun M => ⟨tOk, (ctAll_cons (c_pool_Take_ok M) ctAll_nil), mixed, bwAll⟩) Try.func53 (by kernel_rfl) (by kernel_rfl) p_store_taken _ _ [s2, s2, s1] r_store_taken true false [901] (by kernel_rfl) (fun y => by kernel_rfl) (fun h => by cases h) (fun y => by kernel_rfl) (m_store_taken N) (fun x => by kernel_rfl)
noncomputable def ct_slices_Clone_Lapi_Node_api_Node (N : Nat) : List Ctr := []
def p_slices_Clone_Lapi_Node_api_Node : Pl := .z
def r_slices_Clone_Lapi_Node_api_Node : PS := ⟨[(2, .k (.ow 900))], [(900, .arr 75 s10 true)], [s12]⟩
noncomputable def m_slices_Clone_Lapi_Node_api_Node (N : Nat) : (List (Int × (Int × (List (Int × Int))))) → Option ((List (Int × (Int × (List (Int × Int)))))) := exF T ct_slices_Clone_Lapi_Node_api_Node N (bodyOf Try.f40) 8 p_slices_Clone_Lapi_Node_api_Node [.h s12] [] [s12] r_slices_Clone_Lapi_Node_api_Node
noncomputable def c_slices_Clone_Lapi_Node_api_Node (N : Nat) : Ctr := ⟨40, [.h s12], [], [s12], Tup r_slices_Clone_Lapi_Node_api_Node.c, m_slices_Clone_Lapi_Node_api_Node N, fun y _ k => k (resG T (mkPS 8 r_slices_Clone_Lapi_Node_api_Node y) Try.f40.results.toList) (keepH' [900] (mkPS 8 r_slices_Clone_Lapi_Node_api_Node y).h), true, false⟩
theorem m_slices_Clone_Lapi_Node_api_Node_eq (N : Nat) (s : (List (Int × (Int × (List (Int × Int)))))) : m_slices_Clone_Lapi_Node_api_Node (N + 1) (s) = cond (isNilB s)
   (dem fun zb1 =>
    cond zb1
     (some [])
     (obind (appI (40 : Nat) [] s) fun z2 =>
      some z2))
   (obind (appI (40 : Nat) [] s) fun z3 =>
    some z3) := by kernel_rfl
theorem c_slices_Clone_Lapi_Node_api_Node_ok (N : Nat) : (c_slices_Clone_Lapi_Node_api_Node N).ok Try.prog := exF_ok (T := T) (CT := ct_slices_Clone_Lapi_Node_api_Node) (N := N) (fun M => ⟨tOk, ctAll_nil, mixed, bwAll⟩) Try.func40 (by kernel_rfl) (by kernel_rfl) p_slices_Clone_Lapi_Node_api_Node _ _ [s12] r_slices_Clone_Lapi_Node_api_Node true false [900] (by kernel_rfl) (fun y => by kernel_rfl) (fun h => by cases h) (fun y => by kernel_rfl) (m_slices_Clone_Lapi_Node_api_Node N) (fun x => by kernel_rfl)
noncomputable def ct_store_Put (N : Nat) : List Ctr := [c_store_Right N, c_tower_Right N, c_store_taken N, c_slices_Clone_Lapi_Node_api_Node N]
def i_store_Put_2 : PS := ⟨[(3, .k (.pt 900 0)), (4, .k (.pt 901 0)), (5, .k (.pt 902 0)), (7, .k (.pt 903 0)), (8, .k (.ow 904)), (10, .k (.ow 905)), (12, .k (.pt 906 0)), (13, .k (.pt 907 0)), (44, .k (.ow 904)), (45, .h s1), (46, .h s1), (66, .h s2), (67, .h s1), (68, .h s1)], [(900, .box 35 [.h s2, .h s2, .h s3]), (901, .box 27 [.k .nil, .k .nil, .k .nil]), (902, .box 29 [.h s1, .h s1]), (903, .box 24 [.h s2, .h s2]), (904, .arr 29 s4 true), (905, .arr 75 s10 true), (906, .box 29 [.h s1, .h s1]), (907, .box 75 [.h s1, .h s1, .k (.ow 908)]), (908, .arr 29 s4 true)], [s1, s1, s2, s1, s1, s2, s2, s3, s1, s1, s2, s2, s5, s12, s1, s1, s1, s1, s5]⟩
def o_store_Put_2 : List (Exit × PS) := [((.exit 2), ⟨[(3, .k (.pt 900 0)), (4, .k (.pt 901 0)), (5, .k (.pt 902 0)), (7, .k (.pt 903 0)), (8, .k (.ow 904)), (10, .k (.ow 905)), (12, .k (.pt 906 0)), (13, .k (.pt 907 0)), (44, .k (.ow 904)), (45, .h s1), (46, .h s1)], [(900, .box 35 [.h s2, .h s2, .h s3]), (901, .box 27 [.k .nil, .k .nil, .k .nil]), (902, .box 29 [.h s1, .h s1]), (903, .box 24 [.h s2, .h s2]), (904, .arr 29 s4 true), (905, .arr 75 s10 true), (906, .box 29 [.h s1, .h s1]), (907, .box 75 [.h s1, .h s1, .k (.ow 908)]), (908, .arr 29 s4 true)], [s1, s1, s2, s2, s3, s1, s1, s2, s2, s5, s12, s1, s1, s1, s1, s5]⟩)]
def p_store_Put_2 : Pl := .z
noncomputable def l_store_Put_2 (N : Nat) : Nat → Int × Int × (List Int) × Int × Int × (List Int) × (List Int) × (List (List Int)) × Int × Int × (List Int) × (List Int) × (List (Int × Int)) × (List (Int × (Int × (List (Int × Int))))) × Int × Int × Int × Int × (List (Int × Int)) → Option (Int × Int × (List Int) × (List Int) × (List (List Int)) × Int × Int × (List Int) × (List Int) × (List (Int × Int)) × (List (Int × (Int × (List (Int × Int))))) × Int × Int × Int × Int × (List (Int × Int))) := loopF (exC T (ct_store_Put N) N (codeAt [1, 1, 1, 1, 1, 0, 1, 0, 0, 1, 1, 0, 0, 1, 1, 0, 1, 0, 0] (bodyOf Try.f21))) 94 i_store_Put_2 o_store_Put_2 p_store_Put_2
def i_store_Put_1 : PS := ⟨[(3, .k (.pt 900 0)), (4, .k (.pt 901 0)), (5, .k (.pt 902 0)), (7, .k (.pt 903 0)), (8, .k (.ow 904)), (10, .k (.ow 905)), (44, .k (.ow 904)), (45, .h s1), (46, .h s1)], [(900, .box 35 [.h s2, .h s2, .h s3]), (901, .box 27 [.k .nil, .k .nil, .k .nil]), (902, .box 29 [.h s1, .h s1]), (903, .box 24 [.h s2, .h s2]), (904, .arr 29 s4 true), (905, .arr 75 s10 true)], [s1, s1, s2, s2, s3, s1, s1, s2, s2, s5, s12]⟩
def o_store_Put_1 : List (Exit × PS) := [((.exit 0), ⟨[(4, .k (.pt 900 0)), (5, .k (.pt 901 0)), (7, .k (.pt 902 0)), (8, .k (.ow 903)), (10, .k (.ow 904))], [(900, .box 27 [.k .nil, .k .nil, .k .nil]), (901, .box 29 [.h s1, .h s1]), (902, .box 24 [.h s2, .h s2]), (903, .arr 29 s4 true), (904, .arr 75 s10 true)], [s1, s1, s2, s2, s5, s12]⟩)]
def p_store_Put_1 : Pl := (.n .z (.n .z (.n (.n (.n .z (.n .z (.n (.n .z (.n (.loop i_store_Put_2 o_store_Put_2 p_store_Put_2) .z)) .z))) .z) .z)))
noncomputable def l_store_Put_1 (N : Nat) : Nat → Int × Int × (List Int) × (List Int) × (List (List Int)) × Int × Int × (List Int) × (List Int) × (List (Int × Int)) × (List (Int × (Int × (List (Int × Int))))) → Option (Int × Int × (List Int) × (List Int) × (List (Int × Int)) × (List (Int × (Int × (List (Int × Int)))))) := loopF (exC T (ct_store_Put N) N (codeAt [1, 1, 1, 1, 1, 0, 1, 0, 0] (bodyOf Try.f21))) 94 i_store_Put_1 o_store_Put_1 p_store_Put_1
def p_store_Put : Pl := (.n .z (.n .z (.n .z (.n .z (.n .z (.n (.n .z (.n (.loop i_store_Put_1 o_store_Put_1 p_store_Put_1) .z)) .z))))))
def r_store_Put : PS := ⟨[(4, .k (.pt 900 0)), (5, .k (.pt 901 0)), (6, .h s1)], [(900, .box 27 [.h s2, .h s2, .h s12]), (901, .box 29 [.h s1, .h s1])], [s1, s2, s2, s12, s1, s1]⟩
noncomputable def m_store_Put (N : Nat) : (List Int) × (List Int) × (List (Int × (Int × (List (Int × Int))))) × (List Int) × (List Int) × (List (List Int)) → Option (Int × (List Int) × (List Int) × (List (Int × (Int × (List (Int × Int))))) × Int × Int) := exF T ct_store_Put N (bodyOf Try.f21) 94 p_store_Put [.ag [.h s2, .h s2, .h s12], .ag [.h s2, .h s2, .h s3]] [] [s2, s2, s12, s2, s2, s3] r_store_Put
noncomputable def c_store_Put (N : Nat) : Ctr := ⟨21, [.ag [.h s2, .h s2, .h s12], .ag [.h s2, .h s2, .h s3]], [], [s2, s2, s12, s2, s2, s3], Tup r_store_Put.c, m_store_Put N, fun y _ k => k (resG T (mkPS 94 r_store_Put y) Try.f21.results.toList) (keepH' [] (mkPS 94 r_store_Put y).h), false, false⟩
theorem l_store_Put_2_s (N m : Nat) (v45 : Int) (v46 : Int) (v66 : (List Int)) (v67 : Int) (v68 : Int) (t : (List Int)) (t2 : (List Int)) (t3 : (List (List Int))) (v5 : Int) (v52 : Int) (p : (List Int)) (p2 : (List Int)) (l : (List (Int × Int))) (nodes : (List (Int × (Int × (List (Int × Int)))))) (h : Int) (h2 : Int) (x : Int) (x2 : Int) (v908 : (List (Int × Int))) : l_store_Put_2 N (m + 1) (v45, v46, v66, v67, v68, t, t2, t3, v5, v52, p, p2, l, nodes, h, h2, x, x2, v908) = cond (decide (v68 < v67))
   (obind (nthI v66 v68) fun z1 =>
    obind (nthI l z1) fun z2 =>
    obind (nthI l z1) fun z3 =>
    obind (appI (16 : Nat) v908 [(z3.1, z3.2)]) fun z4 =>
    (l_store_Put_2 N m (v45, (v46, (v66, (v67, ((IntKind.wrap .i64 (v68 + (1 : Int))), (t, (t2, (t3, (v5, (v52, (p, (p2, (l, (nodes, (h, (h2, (x, (x2, z4))))))))))))))))))))
   (some (v45, (v46, (t, (t2, (t3, (v5, (v52, (p, (p2, (l, (nodes, (h, (h2, (x, (x2, v908)))))))))))))))) := by kernel_rfl
theorem l_store_Put_1_s (N m : Nat) (v45 : Int) (v46 : Int) (t : (List Int)) (t2 : (List Int)) (t3 : (List (List Int))) (v5 : Int) (v52 : Int) (p : (List Int)) (p2 : (List Int)) (l : (List (Int × Int))) (nodes : (List (Int × (Int × (List (Int × Int)))))) : l_store_Put_1 N (m + 1) (v45, v46, t, t2, t3, v5, v52, p, p2, l, nodes) = cond (decide (v46 < v45))
   (obind (nthI l v46) fun z1 =>
    obind (nthI l v46) fun z2 =>
    obind (nthI t v46) fun z3 =>
    obind (nthI t2 v46) fun z4 =>
    obind (nthI t3 v46) fun z5 =>
    obind (l_store_Put_2 N N (v45, (v46, (z5, ((((List.length z5) : Nat) : Int), ((0 : Int), (t, (t2, (t3, (v5, (v52, (p, (p2, (l, (nodes, (z2.1, (z2.2, (z3, (z4, []))))))))))))))))))) fun z6 =>
    obind (nthI z6.2.2.2.2.2.2.2.2.2.2.1 z6.2.2.2.2.2.2.2.2.2.2.2.1) fun z7 =>
    obind (nthI z6.2.2.2.2.2.2.2.2.2.2.1 z6.2.2.2.2.2.2.2.2.2.2.2.1) fun z8 =>
    (l_store_Put_1 N m (z6.1, ((IntKind.wrap .i64 (z6.2.1 + (1 : Int))), (z6.2.2.1, (z6.2.2.2.1, (z6.2.2.2.2.1, (z6.2.2.2.2.2.1, (z6.2.2.2.2.2.2.1, (z6.2.2.2.2.2.2.2.1, (z6.2.2.2.2.2.2.2.2.1, (z6.2.2.2.2.2.2.2.2.2.1, (List.set z6.2.2.2.2.2.2.2.2.2.2.1 (Int.toNat z6.2.2.2.2.2.2.2.2.2.2.2.1) (z6.2.2.2.2.2.2.2.2.2.2.2.2.2.1, (z6.2.2.2.2.2.2.2.2.2.2.2.2.2.2.1, z6.2.2.2.2.2.2.2.2.2.2.2.2.2.2.2)))))))))))))))
   (some (v5, (v52, (p, (p2, (l, nodes)))))) := by kernel_rfl
theorem m_store_Put_eq (N : Nat) (s : (List Int)) (s2 : (List Int)) (s3 : (List (Int × (Int × (List (Int × Int)))))) (t : (List Int)) (t2 : (List Int)) (t3 : (List (List Int))) : m_store_Put (N + 1) (s, s2, s3, t, t2, t3) = obind (m_store_Right N (s, (s2, s3))) fun z1 =>
  cond (!z1)
   (some ((1 : Int), (s, (s2, (s3, ((0 : Int), (0 : Int)))))))
   (obind (m_tower_Right N (t, (t2, t3))) fun z2 =>
    cond (!z2)
     (some ((1 : Int), (s, (s2, (s3, ((0 : Int), (0 : Int)))))))
     (obind (m_store_taken N (s, (s2, (((List.length t) : Nat) : Int)))) fun z3 =>
      cond (!(decide (z3.1 = (0 : Int))))
       (some (z3.1, (s, (s2, (s3, ((0 : Int), (0 : Int)))))))
       (obind (m_slices_Clone_Lapi_Node_api_Node N s3) fun z4 =>
        obind (l_store_Put_1 N N ((((List.length z3.2.2.2) : Nat) : Int), ((0 : Int), (t, (t2, (t3, ((0 : Int), ((0 : Int), (z3.2.1, (z3.2.2.1, (z3.2.2.2, z4))))))))))) fun z5 =>
        obind (nthI z5.2.2.2.2.1 (0 : Int)) fun z6 =>
        obind (nthI z5.2.2.2.2.1 (0 : Int)) fun z7 =>
        some ((0 : Int), (z5.2.2.1, (z5.2.2.2.1, (z5.2.2.2.2.2, (z7.1, z7.2)))))))) := by kernel_rfl
theorem c_store_Put_ok (N : Nat) : (c_store_Put N).ok Try.prog := exF_ok (T := T) (CT := ct_store_Put) (N := N) (fun M => ⟨tOk, (ctAll_cons (c_store_Right_ok M) (ctAll_cons (c_tower_Right_ok M) (ctAll_cons (c_store_taken_ok M) (ctAll_cons (c_slices_Clone_Lapi_Node_api_Node_ok M) ctAll_nil)))), mixed, bwAll⟩) Try.func21 (by kernel_rfl) (by kernel_rfl) p_store_Put _ _ [s2, s2, s12, s2, s2, s3] r_store_Put false false [] (by kernel_rfl) (fun y => by kernel_rfl) (fun _ => ⟨rfl, rfl⟩) (fun y => by kernel_rfl) (m_store_Put N) (fun x => by kernel_rfl)
noncomputable def ct__store_trip_round_phhhnm (N : Nat) : List Ctr := []
def i__store_trip_round_phhhnm_1 : PS := ⟨[(0, .k (.pt 4294967296 0)), (3, .k (.pt 900 0))], [(4294967296, .box 80 [.h s2, .h s2, .h s12, .k (.ow 901), .k (.mp 4294967297)]), (900, .box 29 [.h s1, .h s1]), (4294967297, .mp (.tuple ⟨[]⟩) s4 s1), (901, .arr 29 s4 true)], [s2, s2, s12, s1, s1, s9, s5]⟩
def o__store_trip_round_phhhnm_1 : List (Exit × PS) := [(.ret, ⟨[(4, .h s1)], [(4294967296, .box 80 [.h s2, .h s2, .h s12, .k (.ow 900), .k (.mp 4294967297)]), (4294967297, .mp (.tuple ⟨[]⟩) s4 s1), (900, .arr 29 s4 true)], [s1, s2, s2, s12, s9, s5]⟩)]
def p__store_trip_round_phhhnm_1 : Pl := .z
noncomputable def l__store_trip_round_phhhnm_1 (N : Nat) : Nat → (List Int) × (List Int) × (List (Int × (Int × (List (Int × Int))))) × Int × Int × (List ((Int × Int) × Int)) × (List (Int × Int)) → Option (Int × (List Int) × (List Int) × (List (Int × (Int × (List (Int × Int))))) × (List ((Int × Int) × Int)) × (List (Int × Int))) := loopF (exC T (ct__store_trip_round_phhhnm N) N (codeAt [1, 0, 0] (bodyOf Try.f35))) 50 i__store_trip_round_phhhnm_1 o__store_trip_round_phhhnm_1 p__store_trip_round_phhhnm_1
def p__store_trip_round_phhhnm : Pl := (.n .z (.n (.loop i__store_trip_round_phhhnm_1 o__store_trip_round_phhhnm_1 p__store_trip_round_phhhnm_1) .z))
def r__store_trip_round_phhhnm : PS := ⟨[(4, .h s1)], [(4294967296, .box 80 [.h s2, .h s2, .h s12, .k (.ow 900), .k (.mp 4294967297)]), (4294967297, .mp (.tuple ⟨[]⟩) s4 s1), (900, .arr 29 s4 true)], [s1, s2, s2, s12, s9, s5]⟩
noncomputable def m__store_trip_round_phhhnm (N : Nat) : Int × Int × (List Int) × (List Int) × (List (Int × (Int × (List (Int × Int))))) × (List ((Int × Int) × Int)) → Option (Int × (List Int) × (List Int) × (List (Int × (Int × (List (Int × Int))))) × (List ((Int × Int) × Int)) × (List (Int × Int))) := exF T ct__store_trip_round_phhhnm N (bodyOf Try.f35) 50 p__store_trip_round_phhhnm [.k (.pt 4294967296 0), .ag [.h s1, .h s1]] [(4294967296, .box 80 [.h s2, .h s2, .h s12, .k .nil, .k (.mp 4294967297)]), (4294967297, .mp (.tuple ⟨[]⟩) s4 s1)] [s1, s1, s2, s2, s12, s9] r__store_trip_round_phhhnm
noncomputable def c__store_trip_round_phhhnm (N : Nat) : Ctr := ⟨35, [.k (.pt 4294967296 0), .ag [.h s1, .h s1]], [(4294967296, .box 80 [.h s2, .h s2, .h s12, .k .nil, .k (.mp 4294967297)]), (4294967297, .mp (.tuple ⟨[]⟩) s4 s1)], [s1, s1, s2, s2, s12, s9], Tup r__store_trip_round_phhhnm.c, m__store_trip_round_phhhnm N, fun y _ k => k (resG T (mkPS 50 r__store_trip_round_phhhnm y) Try.f35.results.toList) (keepH' [4294967296, 4294967297, 900] (mkPS 50 r__store_trip_round_phhhnm y).h), true, false⟩
theorem l__store_trip_round_phhhnm_1_s (N m : Nat) (r : (List Int)) (r2 : (List Int)) (r3 : (List (Int × (Int × (List (Int × Int)))))) (h : Int) (h2 : Int) (v4294967297 : (List ((Int × Int) × Int))) (v901 : (List (Int × Int))) : l__store_trip_round_phhhnm_1 N (m + 1) (r, r2, r3, h, h2, v4294967297, v901) = cond (Option.isSome (mget (.pr (.i .i64) (.i .i64)) v4294967297 (h, h2)))
   (some ((Option.getD (mget (.pr (.i .i64) (.i .i64)) v4294967297 (h, h2)) (0 : Int)), (r, (r2, (r3, (v4294967297, v901))))))
   (obind (appI (16 : Nat) v901 [(h, h2)]) fun z1 =>
    obind (nthI r3 h) fun z2 =>
    obind (nthI z2.2.2 (0 : Int)) fun z3 =>
    (l__store_trip_round_phhhnm_1 N m (r, (r2, (r3, (z3.1, (z3.2, ((mput (.pr (.i .i64) (.i .i64)) v4294967297 (h, h2) (((List.length v901) : Nat) : Int)), z1)))))))) := by kernel_rfl
theorem m__store_trip_round_phhhnm_eq (N : Nat) (h : Int) (h2 : Int) (r : (List Int)) (r2 : (List Int)) (r3 : (List (Int × (Int × (List (Int × Int)))))) (h3 : (List ((Int × Int) × Int))) : m__store_trip_round_phhhnm (N + 1) (h, h2, r, r2, r3, h3) = obind (l__store_trip_round_phhhnm_1 N N (r, (r2, (r3, (h, (h2, (h3, []))))))) fun z1 =>
  some (z1.1, (z1.2.1, (z1.2.2.1, (z1.2.2.2.1, (z1.2.2.2.2.1, z1.2.2.2.2.2))))) := by kernel_rfl
theorem c__store_trip_round_phhhnm_ok (N : Nat) : (c__store_trip_round_phhhnm N).ok Try.prog := exF_ok (T := T) (CT := ct__store_trip_round_phhhnm) (N := N) (fun M => ⟨tOk, ctAll_nil, mixed, bwAll⟩) Try.func35 (by kernel_rfl) (by kernel_rfl) p__store_trip_round_phhhnm _ _ [s1, s1, s2, s2, s12, s9] r__store_trip_round_phhhnm true false [4294967296, 4294967297, 900] (by kernel_rfl) (fun y => by kernel_rfl) (fun h => by cases h) (fun y => by kernel_rfl) (m__store_trip_round_phhhnm N) (fun x => by kernel_rfl)
noncomputable def ct__store_trip_tower_phhhom (N : Nat) : List Ctr := [c_tower_Right N]
def i__store_trip_tower_phhhom_2 : PS := ⟨[(0, .k (.pt 4294967296 0)), (2, .k (.pt 900 0)), (6, .k (.pt 901 0)), (7, .k (.ow 902)), (15, .k (.ow 4294967297)), (16, .h s1), (17, .h s1), (31, .h s5), (32, .h s1), (33, .h s1)], [(4294967296, .box 80 [.h s2, .h s2, .h s12, .k (.ow 4294967297), .k (.mp 4294967298)]), (900, .box 35 [.k (.ow 903), .k (.ow 904), .k (.ow 905)]), (901, .box 75 [.h s1, .h s1, .h s5]), (902, .arr 3 s1 true), (4294967297, .arr 29 s4 true), (4294967298, .mp (.tuple ⟨[]⟩) s4 s1), (903, .arr 3 s1 true), (904, .arr 3 s1 true), (905, .arr 22 s2 true)], [s1, s1, s5, s1, s1, s2, s2, s12, s1, s1, s5, s2, s5, s9, s2, s2, s3]⟩
def o__store_trip_tower_phhhom_2 : List (Exit × PS) := [((.exit 2), ⟨[(0, .k (.pt 4294967296 0)), (2, .k (.pt 900 0)), (6, .k (.pt 901 0)), (7, .k (.ow 902)), (15, .k (.ow 4294967297)), (16, .h s1), (17, .h s1)], [(4294967296, .box 80 [.h s2, .h s2, .h s12, .k (.ow 4294967297), .k (.mp 4294967298)]), (900, .box 35 [.k (.ow 903), .k (.ow 904), .k (.ow 905)]), (901, .box 75 [.h s1, .h s1, .h s5]), (902, .arr 3 s1 true), (4294967297, .arr 29 s4 true), (4294967298, .mp (.tuple ⟨[]⟩) s4 s1), (903, .arr 3 s1 true), (904, .arr 3 s1 true), (905, .arr 22 s2 true)], [s1, s1, s2, s2, s12, s1, s1, s5, s2, s5, s9, s2, s2, s3]⟩), (.ret, ⟨[(2, .k (.pt 900 0)), (3, .h .b)], [(900, .box 35 [.k .nil, .k .nil, .k .nil]), (4294967296, .box 80 [.h s2, .h s2, .h s12, .k (.ow 4294967297), .k (.mp 4294967298)]), (4294967297, .arr 29 s4 true), (4294967298, .mp (.tuple ⟨[]⟩) s4 s1)], [.b, s2, s2, s12, s5, s9]⟩)]
def p__store_trip_tower_phhhom_2 : Pl := .z
noncomputable def l__store_trip_tower_phhhom_2 (N : Nat) : Nat → Int × Int × (List (Int × Int)) × Int × Int × (List Int) × (List Int) × (List (Int × (Int × (List (Int × Int))))) × Int × Int × (List (Int × Int)) × (List Int) × (List (Int × Int)) × (List ((Int × Int) × Int)) × (List Int) × (List Int) × (List (List Int)) → Option ((Int × Int × (List Int) × (List Int) × (List (Int × (Int × (List (Int × Int))))) × Int × Int × (List (Int × Int)) × (List Int) × (List (Int × Int)) × (List ((Int × Int) × Int)) × (List Int) × (List Int) × (List (List Int))) ⊕ (Bool × (List Int) × (List Int) × (List (Int × (Int × (List (Int × Int))))) × (List (Int × Int)) × (List ((Int × Int) × Int)))) := loopF (exC T (ct__store_trip_tower_phhhom N) N (codeAt [1, 0, 1, 0, 0, 1, 1, 0, 0, 1, 1, 1, 0, 1, 0, 0] (bodyOf Try.f36))) 80 i__store_trip_tower_phhhom_2 o__store_trip_tower_phhhom_2 p__store_trip_tower_phhhom_2
def i__store_trip_tower_phhhom_1 : PS := ⟨[(0, .k (.pt 4294967296 0)), (2, .k (.pt 900 0)), (15, .k (.ow 4294967297)), (16, .h s1), (17, .h s1)], [(4294967296, .box 80 [.h s2, .h s2, .h s12, .k (.ow 4294967297), .k (.mp 4294967298)]), (900, .box 35 [.k (.ow 901), .k (.ow 902), .k (.ow 903)]), (4294967297, .arr 29 s4 true), (4294967298, .mp (.tuple ⟨[]⟩) s4 s1), (901, .arr 3 s1 true), (902, .arr 3 s1 true), (903, .arr 22 s2 true)], [s1, s1, s2, s2, s12, s5, s9, s2, s2, s3]⟩
def o__store_trip_tower_phhhom_1 : List (Exit × PS) := [((.exit 0), ⟨[(2, .k (.pt 900 0))], [(900, .box 35 [.k (.ow 901), .k (.ow 902), .k (.ow 903)]), (4294967296, .box 80 [.h s2, .h s2, .h s12, .k (.ow 4294967297), .k (.mp 4294967298)]), (4294967297, .arr 29 s4 true), (4294967298, .mp (.tuple ⟨[]⟩) s4 s1), (901, .arr 3 s1 true), (902, .arr 3 s1 true), (903, .arr 22 s2 true)], [s2, s2, s12, s5, s9, s2, s2, s3]⟩), (.ret, ⟨[(2, .k (.pt 900 0)), (3, .h .b)], [(900, .box 35 [.k .nil, .k .nil, .k .nil]), (4294967296, .box 80 [.h s2, .h s2, .h s12, .k (.ow 4294967297), .k (.mp 4294967298)]), (4294967297, .arr 29 s4 true), (4294967298, .mp (.tuple ⟨[]⟩) s4 s1)], [.b, s2, s2, s12, s5, s9]⟩)]
def p__store_trip_tower_phhhom_1 : Pl := (.n .z (.n .z (.n (.n (.n .z (.n .z (.n .z (.n (.n .z (.n (.loop i__store_trip_tower_phhhom_2 o__store_trip_tower_phhhom_2 p__store_trip_tower_phhhom_2) .z)) .z)))) .z) .z)))
noncomputable def l__store_trip_tower_phhhom_1 (N : Nat) : Nat → Int × Int × (List Int) × (List Int) × (List (Int × (Int × (List (Int × Int))))) × (List (Int × Int)) × (List ((Int × Int) × Int)) × (List Int) × (List Int) × (List (List Int)) → Option (((List Int) × (List Int) × (List (Int × (Int × (List (Int × Int))))) × (List (Int × Int)) × (List ((Int × Int) × Int)) × (List Int) × (List Int) × (List (List Int))) ⊕ (Bool × (List Int) × (List Int) × (List (Int × (Int × (List (Int × Int))))) × (List (Int × Int)) × (List ((Int × Int) × Int)))) := loopF (exC T (ct__store_trip_tower_phhhom N) N (codeAt [1, 0, 1, 0, 0] (bodyOf Try.f36))) 80 i__store_trip_tower_phhhom_1 o__store_trip_tower_phhhom_1 p__store_trip_tower_phhhom_1
def p__store_trip_tower_phhhom : Pl := (.n .z (.n (.n .z (.n (.loop i__store_trip_tower_phhhom_1 o__store_trip_tower_phhhom_1 p__store_trip_tower_phhhom_1) .z)) .z))
def r__store_trip_tower_phhhom : PS := ⟨[(2, .k (.pt 900 0)), (3, .h .b)], [(900, .box 35 [.h s2, .h s2, .h s3]), (4294967297, .arr 29 s4 true), (4294967298, .mp (.tuple ⟨[]⟩) s4 s1), (4294967296, .box 80 [.h s2, .h s2, .h s12, .k (.ow 4294967297), .k (.mp 4294967298)])], [.b, s2, s2, s3, s5, s9, s2, s2, s12]⟩
noncomputable def m__store_trip_tower_phhhom (N : Nat) : (List Int) × (List Int) × (List (Int × (Int × (List (Int × Int))))) × (List (Int × Int)) × (List ((Int × Int) × Int)) → Option (Bool × (List Int) × (List Int) × (List (List Int)) × (List (Int × Int)) × (List ((Int × Int) × Int)) × (List Int) × (List Int) × (List (Int × (Int × (List (Int × Int)))))) := exF T ct__store_trip_tower_phhhom N (bodyOf Try.f36) 80 p__store_trip_tower_phhhom [.k (.pt 4294967296 0)] [(4294967296, .box 80 [.h s2, .h s2, .h s12, .k (.ow 4294967297), .k (.mp 4294967298)]), (4294967297, .arr 29 s4 true), (4294967298, .mp (.tuple ⟨[]⟩) s4 s1)] [s2, s2, s12, s5, s9] r__store_trip_tower_phhhom
noncomputable def c__store_trip_tower_phhhom (N : Nat) : Ctr := ⟨36, [.k (.pt 4294967296 0)], [(4294967296, .box 80 [.h s2, .h s2, .h s12, .k (.ow 4294967297), .k (.mp 4294967298)]), (4294967297, .arr 29 s4 true), (4294967298, .mp (.tuple ⟨[]⟩) s4 s1)], [s2, s2, s12, s5, s9], Tup r__store_trip_tower_phhhom.c, m__store_trip_tower_phhhom N, fun y _ k => k (resG T (mkPS 80 r__store_trip_tower_phhhom y) Try.f36.results.toList) (keepH' [4294967297, 4294967298, 4294967296] (mkPS 80 r__store_trip_tower_phhhom y).h), true, false⟩
theorem l__store_trip_tower_phhhom_2_s (N m : Nat) (v16 : Int) (v17 : Int) (v31 : (List (Int × Int))) (v32 : Int) (v33 : Int) (r : (List Int)) (r2 : (List Int)) (r3 : (List (Int × (Int × (List (Int × Int)))))) (x : Int) (x2 : Int) (x3 : (List (Int × Int))) (v7 : (List Int)) (v15 : (List (Int × Int))) (v4294967298 : (List ((Int × Int) × Int))) (v903 : (List Int)) (v904 : (List Int)) (v905 : (List (List Int))) : l__store_trip_tower_phhhom_2 N (m + 1) (v16, v17, v31, v32, v33, r, r2, r3, x, x2, x3, v7, v15, v4294967298, v903, v904, v905) = cond (decide (v33 < v32))
   (obind (nthI v31 v33) fun z1 =>
    cond (!(Option.isSome (mget (.pr (.i .i64) (.i .i64)) v4294967298 (z1.1, z1.2))))
     (some (.inr (false, (r, (r2, (r3, (v15, v4294967298)))))))
     (obind (appI (8 : Nat) v7 [(Option.getD (mget (.pr (.i .i64) (.i .i64)) v4294967298 (z1.1, z1.2)) (0 : Int))]) fun z2 =>
      (l__store_trip_tower_phhhom_2 N m (v16, (v17, (v31, (v32, ((IntKind.wrap .i64 (v33 + (1 : Int))), (r, (r2, (r3, (x, (x2, (x3, (z2, (v15, (v4294967298, (v903, (v904, v905)))))))))))))))))))
   (some (.inl (v16, (v17, (r, (r2, (r3, (x, (x2, (x3, (v7, (v15, (v4294967298, (v903, (v904, v905))))))))))))))) := by kernel_rfl
theorem l__store_trip_tower_phhhom_1_s (N m : Nat) (v16 : Int) (v17 : Int) (r : (List Int)) (r2 : (List Int)) (r3 : (List (Int × (Int × (List (Int × Int)))))) (v15 : (List (Int × Int))) (v4294967298 : (List ((Int × Int) × Int))) (v901 : (List Int)) (v902 : (List Int)) (v903 : (List (List Int))) : l__store_trip_tower_phhhom_1 N (m + 1) (v16, v17, r, r2, r3, v15, v4294967298, v901, v902, v903) = cond (decide (v17 < v16))
   (obind (nthI v15 v17) fun z1 =>
    obind (nthI v15 v17) fun z2 =>
    obind (nthI r3 z2.1) fun z3 =>
    obind (l__store_trip_tower_phhhom_2 N N (v16, (v17, (z3.2.2, ((((List.length z3.2.2) : Nat) : Int), ((0 : Int), (r, (r2, (r3, (z3.1, (z3.2.1, (z3.2.2, ([], (v15, (v4294967298, (v901, (v902, v903))))))))))))))))) fun z4 =>
    (match z4 with
    | .inl zy5 => obind (appI (8 : Nat) zy5.2.2.2.2.2.2.2.2.2.2.2.1 [zy5.2.2.2.2.2.1]) fun z6 =>
      obind (appI (8 : Nat) zy5.2.2.2.2.2.2.2.2.2.2.2.2.1 [zy5.2.2.2.2.2.2.1]) fun z7 =>
      obind (appI (24 : Nat) zy5.2.2.2.2.2.2.2.2.2.2.2.2.2 [zy5.2.2.2.2.2.2.2.2.1]) fun z8 =>
      (l__store_trip_tower_phhhom_1 N m (zy5.1, ((IntKind.wrap .i64 (zy5.2.1 + (1 : Int))), (zy5.2.2.1, (zy5.2.2.2.1, (zy5.2.2.2.2.1, (zy5.2.2.2.2.2.2.2.2.2.1, (zy5.2.2.2.2.2.2.2.2.2.2.1, (z6, (z7, z8))))))))))
    | .inr zy9 => some (.inr (zy9.1, (zy9.2.1, (zy9.2.2.1, (zy9.2.2.2.1, (zy9.2.2.2.2.1, zy9.2.2.2.2.2))))))))
   (some (.inl (r, (r2, (r3, (v15, (v4294967298, (v901, (v902, v903))))))))) := by kernel_rfl
theorem m__store_trip_tower_phhhom_eq (N : Nat) (r : (List Int)) (r2 : (List Int)) (r3 : (List (Int × (Int × (List (Int × Int)))))) (h : (List (Int × Int))) (h2 : (List ((Int × Int) × Int))) : m__store_trip_tower_phhhom (N + 1) (r, r2, r3, h, h2) = obind (l__store_trip_tower_phhhom_1 N N ((((List.length h) : Nat) : Int), ((0 : Int), (r, (r2, (r3, (h, (h2, ([], ([], [])))))))))) fun z1 =>
  (match z1 with
  | .inl zy2 => obind (m_tower_Right N (zy2.2.2.2.2.2.1, (zy2.2.2.2.2.2.2.1, zy2.2.2.2.2.2.2.2))) fun z3 =>
    cond (!z3)
     (some (false, ([], ([], ([], (zy2.2.2.2.1, (zy2.2.2.2.2.1, (zy2.1, (zy2.2.1, zy2.2.2.1)))))))))
     (some (true, (zy2.2.2.2.2.2.1, (zy2.2.2.2.2.2.2.1, (zy2.2.2.2.2.2.2.2, (zy2.2.2.2.1, (zy2.2.2.2.2.1, (zy2.1, (zy2.2.1, zy2.2.2.1)))))))))
  | .inr zy4 => some (zy4.1, ([], ([], ([], (zy4.2.2.2.2.1, (zy4.2.2.2.2.2, (zy4.2.1, (zy4.2.2.1, zy4.2.2.2.1))))))))) := by kernel_rfl
theorem c__store_trip_tower_phhhom_ok (N : Nat) : (c__store_trip_tower_phhhom N).ok Try.prog := exF_ok (T := T) (CT := ct__store_trip_tower_phhhom) (N := N) (fun M => ⟨tOk, (ctAll_cons (c_tower_Right_ok M) ctAll_nil), mixed, bwAll⟩) Try.func36 (by kernel_rfl) (by kernel_rfl) p__store_trip_tower_phhhom _ _ [s2, s2, s12, s5, s9] r__store_trip_tower_phhhom true false [4294967297, 4294967298, 4294967296] (by kernel_rfl) (fun y => by kernel_rfl) (fun h => by cases h) (fun y => by kernel_rfl) (m__store_trip_tower_phhhom N) (fun x => by kernel_rfl)
noncomputable def ct_store_Read (N : Nat) : List Ctr := [c_store_Right N, c_pool_Good N, c__store_trip_round_phhhnm N, c__store_trip_tower_phhhom N]
def p_store_Read : Pl := .z
def r_store_Read : PS := ⟨[(4, .k (.pt 900 0)), (5, .k (.ow 901)), (6, .h s1)], [(900, .box 35 [.h s2, .h s2, .h s3]), (901, .arr 29 s4 true)], [s1, s2, s2, s3, s5]⟩
noncomputable def m_store_Read (N : Nat) : (List Int) × (List Int) × (List (Int × (Int × (List (Int × Int))))) × Int × Int → Option (Int × (List Int) × (List Int) × (List (List Int)) × (List (Int × Int))) := exF T ct_store_Read N (bodyOf Try.f11) 47 p_store_Read [.ag [.h s2, .h s2, .h s12], .ag [.h s1, .h s1]] [] [s2, s2, s12, s1, s1] r_store_Read
noncomputable def c_store_Read (N : Nat) : Ctr := ⟨11, [.ag [.h s2, .h s2, .h s12], .ag [.h s1, .h s1]], [], [s2, s2, s12, s1, s1], Tup r_store_Read.c, m_store_Read N, fun y _ k => k (resG T (mkPS 47 r_store_Read y) Try.f11.results.toList) (keepH' [901] (mkPS 47 r_store_Read y).h), true, false⟩
theorem m_store_Read_eq (N : Nat) (s : (List Int)) (s2 : (List Int)) (s3 : (List (Int × (Int × (List (Int × Int)))))) (h : Int) (h2 : Int) : m_store_Read (N + 1) (s, s2, s3, h, h2) = obind (m_store_Right N (s, (s2, s3))) fun z1 =>
  cond (!z1)
   (some ((1 : Int), ([], ([], ([], [])))))
   (obind (m_pool_Good N (s, (s2, (h, h2)))) fun z2 =>
    cond (!z2)
     (some ((3 : Int), ([], ([], ([], [])))))
     (obind (m__store_trip_round_phhhnm N (h, (h2, (s, (s2, (s3, [])))))) fun z3 =>
      obind (m__store_trip_tower_phhhom N (z3.2.1, (z3.2.2.1, (z3.2.2.2.1, (z3.2.2.2.2.2, z3.2.2.2.2.1))))) fun z4 =>
      cond (!(decide (z3.1 = (0 : Int))))
       (some ((8 : Int), ([], ([], ([], [])))))
       (cond (!z4.1)
         (some ((8 : Int), ([], ([], ([], [])))))
         (some ((0 : Int), (z4.2.1, (z4.2.2.1, (z4.2.2.2.1, z4.2.2.2.2.1)))))))) := by kernel_rfl
theorem c_store_Read_ok (N : Nat) : (c_store_Read N).ok Try.prog := exF_ok (T := T) (CT := ct_store_Read) (N := N) (fun M => ⟨tOk, (ctAll_cons (c_store_Right_ok M) (ctAll_cons (c_pool_Good_ok M) (ctAll_cons (c__store_trip_round_phhhnm_ok M) (ctAll_cons (c__store_trip_tower_phhhom_ok M) ctAll_nil)))), mixed, bwAll⟩) Try.func11 (by kernel_rfl) (by kernel_rfl) p_store_Read _ _ [s2, s2, s12, s1, s1] r_store_Read true false [901] (by kernel_rfl) (fun y => by kernel_rfl) (fun h => by cases h) (fun y => by kernel_rfl) (m_store_Read N) (fun x => by kernel_rfl)
noncomputable def ct_store_leadsF1_ph (N : Nat) : List Ctr := []
def p_store_leadsF1_ph : Pl := .z
def r_store_leadsF1_ph : PS := ⟨[(3, .h .b)], [(4294967296, .box 3 [.h s1])], [.b, s1]⟩
noncomputable def m_store_leadsF1_ph (N : Nat) : Int × Int × Int → Option (Bool × Int) := exF T ct_store_leadsF1_ph N (bodyOf Try.f66) 8 p_store_leadsF1_ph [.ag [.h s1, .h s1], .k (.pt 4294967296 0)] [(4294967296, .box 3 [.h s1])] [s1, s1, s1] r_store_leadsF1_ph
noncomputable def c_store_leadsF1_ph (N : Nat) : Ctr := ⟨66, [.ag [.h s1, .h s1], .k (.pt 4294967296 0)], [(4294967296, .box 3 [.h s1])], [s1, s1, s1], Tup r_store_leadsF1_ph.c, m_store_leadsF1_ph N, fun y _ k => k (resG T (mkPS 8 r_store_leadsF1_ph y) Try.f66.results.toList) (keepH' [4294967296] (mkPS 8 r_store_leadsF1_ph y).h), true, true⟩
theorem m_store_leadsF1_ph_eq (N : Nat) (h : Int) (h2 : Int) (v4294967296 : Int) : m_store_leadsF1_ph (N + 1) (h, h2, v4294967296) = some ((decide (h = v4294967296)), v4294967296) := by kernel_rfl
theorem c_store_leadsF1_ph_ok (N : Nat) : (c_store_leadsF1_ph N).ok Try.prog := exF_ok (T := T) (CT := ct_store_leadsF1_ph) (N := N) (fun M => ⟨tOk, ctAll_nil, mixed, bwAll⟩) Try.func66 (by kernel_rfl) (by kernel_rfl) p_store_leadsF1_ph _ _ [s1, s1, s1] r_store_leadsF1_ph true true [4294967296] (by kernel_rfl) (fun y => by kernel_rfl) (fun h => by cases h) (fun y => by kernel_rfl) (m_store_leadsF1_ph N) (fun x => by kernel_rfl)
noncomputable def ct_slices_IndexFunc_Lapi_Handle_api_Handle_store_leadsF1_f66ph (N : Nat) : List Ctr := [c_store_leadsF1_ph N]
def i_slices_IndexFunc_Lapi_Handle_api_Handle_store_leadsF1_f66ph_1 : PS := ⟨[(0, .h s5), (1, .cl (.func 66) [] [.k (.pt 4294967296 0)]), (7, .h s1), (8, .h s1)], [(4294967296, .box 3 [.h s1])], [s5, s1, s1, s1]⟩
def o_slices_IndexFunc_Lapi_Handle_api_Handle_store_leadsF1_f66ph_1 : List (Exit × PS) := [((.exit 0), ⟨[], [(4294967296, .box 3 [.h s1])], [s1]⟩), (.ret, ⟨[(4, .h s1)], [(4294967296, .box 3 [.h s1])], [s1, s1]⟩)]
def p_slices_IndexFunc_Lapi_Handle_api_Handle_store_leadsF1_f66ph_1 : Pl := .z
noncomputable def l_slices_IndexFunc_Lapi_Handle_api_Handle_store_leadsF1_f66ph_1 (N : Nat) : Nat → (List (Int × Int)) × Int × Int × Int → Option ((Int) ⊕ (Int × Int)) := loopF (exC T (ct_slices_IndexFunc_Lapi_Handle_api_Handle_store_leadsF1_f66ph N) N (codeAt [1, 0, 1, 0, 0] (bodyOf Try.f91))) 19 i_slices_IndexFunc_Lapi_Handle_api_Handle_store_leadsF1_f66ph_1 o_slices_IndexFunc_Lapi_Handle_api_Handle_store_leadsF1_f66ph_1 p_slices_IndexFunc_Lapi_Handle_api_Handle_store_leadsF1_f66ph_1
def p_slices_IndexFunc_Lapi_Handle_api_Handle_store_leadsF1_f66ph : Pl := (.n .z (.n (.n .z (.n (.loop i_slices_IndexFunc_Lapi_Handle_api_Handle_store_leadsF1_f66ph_1 o_slices_IndexFunc_Lapi_Handle_api_Handle_store_leadsF1_f66ph_1 p_slices_IndexFunc_Lapi_Handle_api_Handle_store_leadsF1_f66ph_1) .z)) .z))
def r_slices_IndexFunc_Lapi_Handle_api_Handle_store_leadsF1_f66ph : PS := ⟨[(4, .h s1)], [(4294967296, .box 3 [.h s1])], [s1, s1]⟩
noncomputable def m_slices_IndexFunc_Lapi_Handle_api_Handle_store_leadsF1_f66ph (N : Nat) : (List (Int × Int)) × Int → Option (Int × Int) := exF T ct_slices_IndexFunc_Lapi_Handle_api_Handle_store_leadsF1_f66ph N (bodyOf Try.f91) 19 p_slices_IndexFunc_Lapi_Handle_api_Handle_store_leadsF1_f66ph [.h s5, .cl (.func 66) [] [.k (.pt 4294967296 0)]] [(4294967296, .box 3 [.h s1])] [s5, s1] r_slices_IndexFunc_Lapi_Handle_api_Handle_store_leadsF1_f66ph
noncomputable def c_slices_IndexFunc_Lapi_Handle_api_Handle_store_leadsF1_f66ph (N : Nat) : Ctr := ⟨91, [.h s5, .cl (.func 66) [] [.k (.pt 4294967296 0)]], [(4294967296, .box 3 [.h s1])], [s5, s1], Tup r_slices_IndexFunc_Lapi_Handle_api_Handle_store_leadsF1_f66ph.c, m_slices_IndexFunc_Lapi_Handle_api_Handle_store_leadsF1_f66ph N, fun y _ k => k (resG T (mkPS 19 r_slices_IndexFunc_Lapi_Handle_api_Handle_store_leadsF1_f66ph y) Try.f91.results.toList) (keepH' [4294967296] (mkPS 19 r_slices_IndexFunc_Lapi_Handle_api_Handle_store_leadsF1_f66ph y).h), true, true⟩
theorem l_slices_IndexFunc_Lapi_Handle_api_Handle_store_leadsF1_f66ph_1_s (N m : Nat) (s : (List (Int × Int))) (v7 : Int) (v8 : Int) (f : Int) : l_slices_IndexFunc_Lapi_Handle_api_Handle_store_leadsF1_f66ph_1 N (m + 1) (s, v7, v8, f) = cond (decide (v8 < v7))
   (obind (nthI s v8) fun z1 =>
    obind (m_store_leadsF1_ph N (z1.1, (z1.2, f))) fun z2 =>
    cond z2.1
     (some (.inr (v8, z2.2)))
     ((l_slices_IndexFunc_Lapi_Handle_api_Handle_store_leadsF1_f66ph_1 N m (s, (v7, ((IntKind.wrap .i64 (v8 + (1 : Int))), z2.2))))))
   (some (.inl f)) := by kernel_rfl
theorem m_slices_IndexFunc_Lapi_Handle_api_Handle_store_leadsF1_f66ph_eq (N : Nat) (s : (List (Int × Int))) (f : Int) : m_slices_IndexFunc_Lapi_Handle_api_Handle_store_leadsF1_f66ph (N + 1) (s, f) = obind (l_slices_IndexFunc_Lapi_Handle_api_Handle_store_leadsF1_f66ph_1 N N (s, ((((List.length s) : Nat) : Int), ((0 : Int), f)))) fun z1 =>
  (match z1 with
  | .inl zy2 => some ((-(1 : Int)), zy2)
  | .inr zy3 => some (zy3.1, zy3.2)) := by kernel_rfl
theorem c_slices_IndexFunc_Lapi_Handle_api_Handle_store_leadsF1_f66ph_ok (N : Nat) : (c_slices_IndexFunc_Lapi_Handle_api_Handle_store_leadsF1_f66ph N).ok Try.prog := exF_ok (T := T) (CT := ct_slices_IndexFunc_Lapi_Handle_api_Handle_store_leadsF1_f66ph) (N := N) (fun M => ⟨tOk, (ctAll_cons (c_store_leadsF1_ph_ok M) ctAll_nil), mixed, bwAll⟩) Try.func91 (by kernel_rfl) (by kernel_rfl) p_slices_IndexFunc_Lapi_Handle_api_Handle_store_leadsF1_f66ph _ _ [s5, s1] r_slices_IndexFunc_Lapi_Handle_api_Handle_store_leadsF1_f66ph true true [4294967296] (by kernel_rfl) (fun y => by kernel_rfl) (fun h => by cases h) (fun y => by kernel_rfl) (m_slices_IndexFunc_Lapi_Handle_api_Handle_store_leadsF1_f66ph N) (fun x => by kernel_rfl)
noncomputable def ct_slices_ContainsFunc_Lapi_Handle_api_Handle_store_leadsF1_f66ph (N : Nat) : List Ctr := [c_slices_IndexFunc_Lapi_Handle_api_Handle_store_leadsF1_f66ph N]
def p_slices_ContainsFunc_Lapi_Handle_api_Handle_store_leadsF1_f66ph : Pl := .z
def r_slices_ContainsFunc_Lapi_Handle_api_Handle_store_leadsF1_f66ph : PS := ⟨[(4, .h .b)], [(4294967296, .box 3 [.h s1])], [.b, s1]⟩
noncomputable def m_slices_ContainsFunc_Lapi_Handle_api_Handle_store_leadsF1_f66ph (N : Nat) : (List (Int × Int)) × Int → Option (Bool × Int) := exF T ct_slices_ContainsFunc_Lapi_Handle_api_Handle_store_leadsF1_f66ph N (bodyOf Try.f65) 9 p_slices_ContainsFunc_Lapi_Handle_api_Handle_store_leadsF1_f66ph [.h s5, .cl (.func 66) [] [.k (.pt 4294967296 0)]] [(4294967296, .box 3 [.h s1])] [s5, s1] r_slices_ContainsFunc_Lapi_Handle_api_Handle_store_leadsF1_f66ph
noncomputable def c_slices_ContainsFunc_Lapi_Handle_api_Handle_store_leadsF1_f66ph (N : Nat) : Ctr := ⟨65, [.h s5, .cl (.func 66) [] [.k (.pt 4294967296 0)]], [(4294967296, .box 3 [.h s1])], [s5, s1], Tup r_slices_ContainsFunc_Lapi_Handle_api_Handle_store_leadsF1_f66ph.c, m_slices_ContainsFunc_Lapi_Handle_api_Handle_store_leadsF1_f66ph N, fun y _ k => k (resG T (mkPS 9 r_slices_ContainsFunc_Lapi_Handle_api_Handle_store_leadsF1_f66ph y) Try.f65.results.toList) (keepH' [4294967296] (mkPS 9 r_slices_ContainsFunc_Lapi_Handle_api_Handle_store_leadsF1_f66ph y).h), true, true⟩
theorem m_slices_ContainsFunc_Lapi_Handle_api_Handle_store_leadsF1_f66ph_eq (N : Nat) (s : (List (Int × Int))) (f : Int) : m_slices_ContainsFunc_Lapi_Handle_api_Handle_store_leadsF1_f66ph (N + 1) (s, f) = obind (m_slices_IndexFunc_Lapi_Handle_api_Handle_store_leadsF1_f66ph N (s, f)) fun z1 =>
  some ((decide ((0 : Int) ≤ z1.1)), z1.2) := by kernel_rfl
theorem c_slices_ContainsFunc_Lapi_Handle_api_Handle_store_leadsF1_f66ph_ok (N : Nat) : (c_slices_ContainsFunc_Lapi_Handle_api_Handle_store_leadsF1_f66ph N).ok Try.prog := exF_ok (T := T) (CT := ct_slices_ContainsFunc_Lapi_Handle_api_Handle_store_leadsF1_f66ph) (N := N) (fun M => ⟨tOk, (ctAll_cons (c_slices_IndexFunc_Lapi_Handle_api_Handle_store_leadsF1_f66ph_ok M) ctAll_nil), mixed, bwAll⟩) Try.func65 (by kernel_rfl) (by kernel_rfl) p_slices_ContainsFunc_Lapi_Handle_api_Handle_store_leadsF1_f66ph _ _ [s5, s1] r_slices_ContainsFunc_Lapi_Handle_api_Handle_store_leadsF1_f66ph true true [4294967296] (by kernel_rfl) (fun y => by kernel_rfl) (fun h => by cases h) (fun y => by kernel_rfl) (m_slices_ContainsFunc_Lapi_Handle_api_Handle_store_leadsF1_f66ph N) (fun x => by kernel_rfl)
noncomputable def ct_slices_Index_Lapi_Handle_api_Handle (N : Nat) : List Ctr := []
def i_slices_Index_Lapi_Handle_api_Handle_1 : PS := ⟨[(0, .h s5), (3, .k (.pt 900 0)), (7, .h s1), (8, .h s1)], [(900, .box 29 [.h s1, .h s1])], [s5, s1, s1, s1, s1]⟩
def o_slices_Index_Lapi_Handle_api_Handle_1 : List (Exit × PS) := [((.exit 0), ⟨[], [], []⟩), (.ret, ⟨[(4, .h s1)], [], [s1]⟩)]
def p_slices_Index_Lapi_Handle_api_Handle_1 : Pl := .z
noncomputable def l_slices_Index_Lapi_Handle_api_Handle_1 (N : Nat) : Nat → (List (Int × Int)) × Int × Int × Int × Int → Option ((Unit) ⊕ (Int)) := loopF (exC T (ct_slices_Index_Lapi_Handle_api_Handle N) N (codeAt [1, 0, 1, 0, 0] (bodyOf Try.f92))) 19 i_slices_Index_Lapi_Handle_api_Handle_1 o_slices_Index_Lapi_Handle_api_Handle_1 p_slices_Index_Lapi_Handle_api_Handle_1
def p_slices_Index_Lapi_Handle_api_Handle : Pl := (.n .z (.n (.n .z (.n (.loop i_slices_Index_Lapi_Handle_api_Handle_1 o_slices_Index_Lapi_Handle_api_Handle_1 p_slices_Index_Lapi_Handle_api_Handle_1) .z)) .z))
def r_slices_Index_Lapi_Handle_api_Handle : PS := ⟨[(4, .h s1)], [], [s1]⟩
noncomputable def m_slices_Index_Lapi_Handle_api_Handle (N : Nat) : (List (Int × Int)) × Int × Int → Option (Int) := exF T ct_slices_Index_Lapi_Handle_api_Handle N (bodyOf Try.f92) 19 p_slices_Index_Lapi_Handle_api_Handle [.h s5, .ag [.h s1, .h s1]] [] [s5, s1, s1] r_slices_Index_Lapi_Handle_api_Handle
noncomputable def c_slices_Index_Lapi_Handle_api_Handle (N : Nat) : Ctr := ⟨92, [.h s5, .ag [.h s1, .h s1]], [], [s5, s1, s1], Tup r_slices_Index_Lapi_Handle_api_Handle.c, m_slices_Index_Lapi_Handle_api_Handle N, fun y _ k => k (resG T (mkPS 19 r_slices_Index_Lapi_Handle_api_Handle y) Try.f92.results.toList) (keepH' [] (mkPS 19 r_slices_Index_Lapi_Handle_api_Handle y).h), false, true⟩
theorem l_slices_Index_Lapi_Handle_api_Handle_1_s (N m : Nat) (s : (List (Int × Int))) (v7 : Int) (v8 : Int) (v : Int) (v2 : Int) : l_slices_Index_Lapi_Handle_api_Handle_1 N (m + 1) (s, v7, v8, v, v2) = cond (decide (v8 < v7))
   (obind (nthI s v8) fun z1 =>
    cond ((decide (v = z1.1)) && (decide (v2 = z1.2)))
     (some (.inr v8))
     ((l_slices_Index_Lapi_Handle_api_Handle_1 N m (s, (v7, ((IntKind.wrap .i64 (v8 + (1 : Int))), (v, v2)))))))
   (some (.inl ())) := by kernel_rfl
theorem m_slices_Index_Lapi_Handle_api_Handle_eq (N : Nat) (s : (List (Int × Int))) (v : Int) (v2 : Int) : m_slices_Index_Lapi_Handle_api_Handle (N + 1) (s, v, v2) = obind (l_slices_Index_Lapi_Handle_api_Handle_1 N N (s, ((((List.length s) : Nat) : Int), ((0 : Int), (v, v2))))) fun z1 =>
  (match z1 with
  | .inl zy2 => some (-(1 : Int))
  | .inr zy3 => some zy3) := by kernel_rfl
theorem c_slices_Index_Lapi_Handle_api_Handle_ok (N : Nat) : (c_slices_Index_Lapi_Handle_api_Handle N).ok Try.prog := exF_ok (T := T) (CT := ct_slices_Index_Lapi_Handle_api_Handle) (N := N) (fun M => ⟨tOk, ctAll_nil, mixed, bwAll⟩) Try.func92 (by kernel_rfl) (by kernel_rfl) p_slices_Index_Lapi_Handle_api_Handle _ _ [s5, s1, s1] r_slices_Index_Lapi_Handle_api_Handle false true [] (by kernel_rfl) (fun y => by kernel_rfl) (fun _ => ⟨rfl, rfl⟩) (fun y => by kernel_rfl) (m_slices_Index_Lapi_Handle_api_Handle N) (fun x => by kernel_rfl)
noncomputable def ct_slices_Contains_Lapi_Handle_api_Handle (N : Nat) : List Ctr := [c_slices_Index_Lapi_Handle_api_Handle N]
def p_slices_Contains_Lapi_Handle_api_Handle : Pl := .z
def r_slices_Contains_Lapi_Handle_api_Handle : PS := ⟨[(4, .h .b)], [], [.b]⟩
noncomputable def m_slices_Contains_Lapi_Handle_api_Handle (N : Nat) : (List (Int × Int)) × Int × Int → Option (Bool) := exF T ct_slices_Contains_Lapi_Handle_api_Handle N (bodyOf Try.f68) 9 p_slices_Contains_Lapi_Handle_api_Handle [.h s5, .ag [.h s1, .h s1]] [] [s5, s1, s1] r_slices_Contains_Lapi_Handle_api_Handle
noncomputable def c_slices_Contains_Lapi_Handle_api_Handle (N : Nat) : Ctr := ⟨68, [.h s5, .ag [.h s1, .h s1]], [], [s5, s1, s1], Tup r_slices_Contains_Lapi_Handle_api_Handle.c, m_slices_Contains_Lapi_Handle_api_Handle N, fun y _ k => k (resG T (mkPS 9 r_slices_Contains_Lapi_Handle_api_Handle y) Try.f68.results.toList) (keepH' [] (mkPS 9 r_slices_Contains_Lapi_Handle_api_Handle y).h), false, true⟩
theorem m_slices_Contains_Lapi_Handle_api_Handle_eq (N : Nat) (s : (List (Int × Int))) (v : Int) (v2 : Int) : m_slices_Contains_Lapi_Handle_api_Handle (N + 1) (s, v, v2) = obind (m_slices_Index_Lapi_Handle_api_Handle N (s, (v, v2))) fun z1 =>
  some (decide ((0 : Int) ≤ z1)) := by kernel_rfl
theorem c_slices_Contains_Lapi_Handle_api_Handle_ok (N : Nat) : (c_slices_Contains_Lapi_Handle_api_Handle N).ok Try.prog := exF_ok (T := T) (CT := ct_slices_Contains_Lapi_Handle_api_Handle) (N := N) (fun M => ⟨tOk, (ctAll_cons (c_slices_Index_Lapi_Handle_api_Handle_ok M) ctAll_nil), mixed, bwAll⟩) Try.func68 (by kernel_rfl) (by kernel_rfl) p_slices_Contains_Lapi_Handle_api_Handle _ _ [s5, s1, s1] r_slices_Contains_Lapi_Handle_api_Handle false true [] (by kernel_rfl) (fun y => by kernel_rfl) (fun _ => ⟨rfl, rfl⟩) (fun y => by kernel_rfl) (m_slices_Contains_Lapi_Handle_api_Handle N) (fun x => by kernel_rfl)
noncomputable def ct_store_leadsF2_ph (N : Nat) : List Ctr := [c_slices_Contains_Lapi_Handle_api_Handle N]
def p_store_leadsF2_ph : Pl := .z
def r_store_leadsF2_ph : PS := ⟨[(3, .h .b)], [(4294967296, .box 36 [.h s5])], [.b, s5]⟩
noncomputable def m_store_leadsF2_ph (N : Nat) : Int × Int × (List (Int × Int)) → Option (Bool × (List (Int × Int))) := exF T ct_store_leadsF2_ph N (bodyOf Try.f67) 7 p_store_leadsF2_ph [.ag [.h s1, .h s1], .k (.pt 4294967296 0)] [(4294967296, .box 36 [.h s5])] [s1, s1, s5] r_store_leadsF2_ph
noncomputable def c_store_leadsF2_ph (N : Nat) : Ctr := ⟨67, [.ag [.h s1, .h s1], .k (.pt 4294967296 0)], [(4294967296, .box 36 [.h s5])], [s1, s1, s5], Tup r_store_leadsF2_ph.c, m_store_leadsF2_ph N, fun y _ k => k (resG T (mkPS 7 r_store_leadsF2_ph y) Try.f67.results.toList) (keepH' [4294967296] (mkPS 7 r_store_leadsF2_ph y).h), true, false⟩
theorem m_store_leadsF2_ph_eq (N : Nat) (h : Int) (h2 : Int) (v4294967296 : (List (Int × Int))) : m_store_leadsF2_ph (N + 1) (h, h2, v4294967296) = obind (m_slices_Contains_Lapi_Handle_api_Handle N (v4294967296, (h, h2))) fun z1 =>
  some (z1, v4294967296) := by kernel_rfl
theorem c_store_leadsF2_ph_ok (N : Nat) : (c_store_leadsF2_ph N).ok Try.prog := exF_ok (T := T) (CT := ct_store_leadsF2_ph) (N := N) (fun M => ⟨tOk, (ctAll_cons (c_slices_Contains_Lapi_Handle_api_Handle_ok M) ctAll_nil), mixed, bwAll⟩) Try.func67 (by kernel_rfl) (by kernel_rfl) p_store_leadsF2_ph _ _ [s1, s1, s5] r_store_leadsF2_ph true false [4294967296] (by kernel_rfl) (fun y => by kernel_rfl) (fun h => by cases h) (fun y => by kernel_rfl) (m_store_leadsF2_ph N) (fun x => by kernel_rfl)
noncomputable def ct_slices_IndexFunc_Lapi_Handle_api_Handle_store_leadsF2_f67ph (N : Nat) : List Ctr := [c_store_leadsF2_ph N]
def i_slices_IndexFunc_Lapi_Handle_api_Handle_store_leadsF2_f67ph_1 : PS := ⟨[(0, .h s5), (1, .cl (.func 67) [] [.k (.pt 4294967296 0)]), (7, .h s1), (8, .h s1)], [(4294967296, .box 36 [.h s5])], [s5, s1, s1, s5]⟩
def o_slices_IndexFunc_Lapi_Handle_api_Handle_store_leadsF2_f67ph_1 : List (Exit × PS) := [((.exit 0), ⟨[], [(4294967296, .box 36 [.h s5])], [s5]⟩), (.ret, ⟨[(4, .h s1)], [(4294967296, .box 36 [.h s5])], [s1, s5]⟩)]
def p_slices_IndexFunc_Lapi_Handle_api_Handle_store_leadsF2_f67ph_1 : Pl := .z
noncomputable def l_slices_IndexFunc_Lapi_Handle_api_Handle_store_leadsF2_f67ph_1 (N : Nat) : Nat → (List (Int × Int)) × Int × Int × (List (Int × Int)) → Option (((List (Int × Int))) ⊕ (Int × (List (Int × Int)))) := loopF (exC T (ct_slices_IndexFunc_Lapi_Handle_api_Handle_store_leadsF2_f67ph N) N (codeAt [1, 0, 1, 0, 0] (bodyOf Try.f91))) 19 i_slices_IndexFunc_Lapi_Handle_api_Handle_store_leadsF2_f67ph_1 o_slices_IndexFunc_Lapi_Handle_api_Handle_store_leadsF2_f67ph_1 p_slices_IndexFunc_Lapi_Handle_api_Handle_store_leadsF2_f67ph_1
def p_slices_IndexFunc_Lapi_Handle_api_Handle_store_leadsF2_f67ph : Pl := (.n .z (.n (.n .z (.n (.loop i_slices_IndexFunc_Lapi_Handle_api_Handle_store_leadsF2_f67ph_1 o_slices_IndexFunc_Lapi_Handle_api_Handle_store_leadsF2_f67ph_1 p_slices_IndexFunc_Lapi_Handle_api_Handle_store_leadsF2_f67ph_1) .z)) .z))
def r_slices_IndexFunc_Lapi_Handle_api_Handle_store_leadsF2_f67ph : PS := ⟨[(4, .h s1)], [(4294967296, .box 36 [.h s5])], [s1, s5]⟩
noncomputable def m_slices_IndexFunc_Lapi_Handle_api_Handle_store_leadsF2_f67ph (N : Nat) : (List (Int × Int)) × (List (Int × Int)) → Option (Int × (List (Int × Int))) := exF T ct_slices_IndexFunc_Lapi_Handle_api_Handle_store_leadsF2_f67ph N (bodyOf Try.f91) 19 p_slices_IndexFunc_Lapi_Handle_api_Handle_store_leadsF2_f67ph [.h s5, .cl (.func 67) [] [.k (.pt 4294967296 0)]] [(4294967296, .box 36 [.h s5])] [s5, s5] r_slices_IndexFunc_Lapi_Handle_api_Handle_store_leadsF2_f67ph
noncomputable def c_slices_IndexFunc_Lapi_Handle_api_Handle_store_leadsF2_f67ph (N : Nat) : Ctr := ⟨91, [.h s5, .cl (.func 67) [] [.k (.pt 4294967296 0)]], [(4294967296, .box 36 [.h s5])], [s5, s5], Tup r_slices_IndexFunc_Lapi_Handle_api_Handle_store_leadsF2_f67ph.c, m_slices_IndexFunc_Lapi_Handle_api_Handle_store_leadsF2_f67ph N, fun y _ k => k (resG T (mkPS 19 r_slices_IndexFunc_Lapi_Handle_api_Handle_store_leadsF2_f67ph y) Try.f91.results.toList) (keepH' [4294967296] (mkPS 19 r_slices_IndexFunc_Lapi_Handle_api_Handle_store_leadsF2_f67ph y).h), true, false⟩
theorem l_slices_IndexFunc_Lapi_Handle_api_Handle_store_leadsF2_f67ph_1_s (N m : Nat) (s : (List (Int × Int))) (v7 : Int) (v8 : Int) (f : (List (Int × Int))) : l_slices_IndexFunc_Lapi_Handle_api_Handle_store_leadsF2_f67ph_1 N (m + 1) (s, v7, v8, f) = cond (decide (v8 < v7))
   (obind (nthI s v8) fun z1 =>
    obind (m_store_leadsF2_ph N (z1.1, (z1.2, f))) fun z2 =>
    cond z2.1
     (some (.inr (v8, z2.2)))
     ((l_slices_IndexFunc_Lapi_Handle_api_Handle_store_leadsF2_f67ph_1 N m (s, (v7, ((IntKind.wrap .i64 (v8 + (1 : Int))), z2.2))))))
   (some (.inl f)) := by kernel_rfl
theorem m_slices_IndexFunc_Lapi_Handle_api_Handle_store_leadsF2_f67ph_eq (N : Nat) (s : (List (Int × Int))) (f : (List (Int × Int))) : m_slices_IndexFunc_Lapi_Handle_api_Handle_store_leadsF2_f67ph (N + 1) (s, f) = obind (l_slices_IndexFunc_Lapi_Handle_api_Handle_store_leadsF2_f67ph_1 N N (s, ((((List.length s) : Nat) : Int), ((0 : Int), f)))) fun z1 =>
  (match z1 with
  | .inl zy2 => some ((-(1 : Int)), zy2)
  | .inr zy3 => some (zy3.1, zy3.2)) := by kernel_rfl
theorem c_slices_IndexFunc_Lapi_Handle_api_Handle_store_leadsF2_f67ph_ok (N : Nat) : (c_slices_IndexFunc_Lapi_Handle_api_Handle_store_leadsF2_f67ph N).ok Try.prog := exF_ok (T := T) (CT := ct_slices_IndexFunc_Lapi_Handle_api_Handle_store_leadsF2_f67ph) (N := N) (fun M => ⟨tOk, (ctAll_cons (c_store_leadsF2_ph_ok M) ctAll_nil), mixed, bwAll⟩) Try.func91 (by kernel_rfl) (by kernel_rfl) p_slices_IndexFunc_Lapi_Handle_api_Handle_store_leadsF2_f67ph _ _ [s5, s5] r_slices_IndexFunc_Lapi_Handle_api_Handle_store_leadsF2_f67ph true false [4294967296] (by kernel_rfl) (fun y => by kernel_rfl) (fun h => by cases h) (fun y => by kernel_rfl) (m_slices_IndexFunc_Lapi_Handle_api_Handle_store_leadsF2_f67ph N) (fun x => by kernel_rfl)
noncomputable def ct_slices_ContainsFunc_Lapi_Handle_api_Handle_store_leadsF2_f67ph (N : Nat) : List Ctr := [c_slices_IndexFunc_Lapi_Handle_api_Handle_store_leadsF2_f67ph N]
def p_slices_ContainsFunc_Lapi_Handle_api_Handle_store_leadsF2_f67ph : Pl := .z
def r_slices_ContainsFunc_Lapi_Handle_api_Handle_store_leadsF2_f67ph : PS := ⟨[(4, .h .b)], [(4294967296, .box 36 [.h s5])], [.b, s5]⟩
noncomputable def m_slices_ContainsFunc_Lapi_Handle_api_Handle_store_leadsF2_f67ph (N : Nat) : (List (Int × Int)) × (List (Int × Int)) → Option (Bool × (List (Int × Int))) := exF T ct_slices_ContainsFunc_Lapi_Handle_api_Handle_store_leadsF2_f67ph N (bodyOf Try.f65) 9 p_slices_ContainsFunc_Lapi_Handle_api_Handle_store_leadsF2_f67ph [.h s5, .cl (.func 67) [] [.k (.pt 4294967296 0)]] [(4294967296, .box 36 [.h s5])] [s5, s5] r_slices_ContainsFunc_Lapi_Handle_api_Handle_store_leadsF2_f67ph
noncomputable def c_slices_ContainsFunc_Lapi_Handle_api_Handle_store_leadsF2_f67ph (N : Nat) : Ctr := ⟨65, [.h s5, .cl (.func 67) [] [.k (.pt 4294967296 0)]], [(4294967296, .box 36 [.h s5])], [s5, s5], Tup r_slices_ContainsFunc_Lapi_Handle_api_Handle_store_leadsF2_f67ph.c, m_slices_ContainsFunc_Lapi_Handle_api_Handle_store_leadsF2_f67ph N, fun y _ k => k (resG T (mkPS 9 r_slices_ContainsFunc_Lapi_Handle_api_Handle_store_leadsF2_f67ph y) Try.f65.results.toList) (keepH' [4294967296] (mkPS 9 r_slices_ContainsFunc_Lapi_Handle_api_Handle_store_leadsF2_f67ph y).h), true, false⟩
theorem m_slices_ContainsFunc_Lapi_Handle_api_Handle_store_leadsF2_f67ph_eq (N : Nat) (s : (List (Int × Int))) (f : (List (Int × Int))) : m_slices_ContainsFunc_Lapi_Handle_api_Handle_store_leadsF2_f67ph (N + 1) (s, f) = obind (m_slices_IndexFunc_Lapi_Handle_api_Handle_store_leadsF2_f67ph N (s, f)) fun z1 =>
  some ((decide ((0 : Int) ≤ z1.1)), z1.2) := by kernel_rfl
theorem c_slices_ContainsFunc_Lapi_Handle_api_Handle_store_leadsF2_f67ph_ok (N : Nat) : (c_slices_ContainsFunc_Lapi_Handle_api_Handle_store_leadsF2_f67ph N).ok Try.prog := exF_ok (T := T) (CT := ct_slices_ContainsFunc_Lapi_Handle_api_Handle_store_leadsF2_f67ph) (N := N) (fun M => ⟨tOk, (ctAll_cons (c_slices_IndexFunc_Lapi_Handle_api_Handle_store_leadsF2_f67ph_ok M) ctAll_nil), mixed, bwAll⟩) Try.func65 (by kernel_rfl) (by kernel_rfl) p_slices_ContainsFunc_Lapi_Handle_api_Handle_store_leadsF2_f67ph _ _ [s5, s5] r_slices_ContainsFunc_Lapi_Handle_api_Handle_store_leadsF2_f67ph true false [4294967296] (by kernel_rfl) (fun y => by kernel_rfl) (fun h => by cases h) (fun y => by kernel_rfl) (m_slices_ContainsFunc_Lapi_Handle_api_Handle_store_leadsF2_f67ph N) (fun x => by kernel_rfl)
noncomputable def ct_store_leads (N : Nat) : List Ctr := [c_slices_ContainsFunc_Lapi_Handle_api_Handle_store_leadsF1_f66ph N, c_slices_ContainsFunc_Lapi_Handle_api_Handle_store_leadsF2_f67ph N]
def i_store_leads_1 : PS := ⟨[(3, .k (.pt 900 0)), (9, .h s12), (10, .h s1), (11, .h s1)], [(900, .box 36 [.h s5])], [s12, s1, s1, s5]⟩
def o_store_leads_1 : List (Exit × PS) := [((.exit 0), ⟨[], [], []⟩), (.ret, ⟨[(4, .h .b)], [], [.b]⟩)]
def p_store_leads_1 : Pl := .z
noncomputable def l_store_leads_1 (N : Nat) : Nat → (List (Int × (Int × (List (Int × Int))))) × Int × Int × (List (Int × Int)) → Option ((Unit) ⊕ (Bool)) := loopF (exC T (ct_store_leads N) N (codeAt [1, 0, 1, 0, 0] (bodyOf Try.f39))) 28 i_store_leads_1 o_store_leads_1 p_store_leads_1
def p_store_leads : Pl := (.n .z (.n (.n .z (.n (.loop i_store_leads_1 o_store_leads_1 p_store_leads_1) .z)) .z))
def r_store_leads : PS := ⟨[(4, .h .b)], [], [.b]⟩
noncomputable def m_store_leads (N : Nat) : (List Int) × (List Int) × (List (Int × (Int × (List (Int × Int))))) × (List (Int × Int)) → Option (Bool) := exF T ct_store_leads N (bodyOf Try.f39) 28 p_store_leads [.ag [.h s2, .h s2, .h s12], .h s5] [] [s2, s2, s12, s5] r_store_leads
noncomputable def c_store_leads (N : Nat) : Ctr := ⟨39, [.ag [.h s2, .h s2, .h s12], .h s5], [], [s2, s2, s12, s5], Tup r_store_leads.c, m_store_leads N, fun y _ k => k (resG T (mkPS 28 r_store_leads y) Try.f39.results.toList) (keepH' [] (mkPS 28 r_store_leads y).h), false, true⟩
theorem l_store_leads_1_s (N m : Nat) (v9 : (List (Int × (Int × (List (Int × Int)))))) (v10 : Int) (v11 : Int) (l : (List (Int × Int))) : l_store_leads_1 N (m + 1) (v9, v10, v11, l) = cond (decide (v11 < v10))
   (obind (nthI v9 v11) fun z1 =>
    obind (m_slices_ContainsFunc_Lapi_Handle_api_Handle_store_leadsF1_f66ph N (l, v11)) fun z2 =>
    cond (!z2.1)
     (obind (m_slices_ContainsFunc_Lapi_Handle_api_Handle_store_leadsF2_f67ph N (z1.2.2, l)) fun z3 =>
      cond z3.1
       (some (.inr true))
       ((l_store_leads_1 N m (v9, (v10, ((IntKind.wrap .i64 (v11 + (1 : Int))), z3.2))))))
     ((l_store_leads_1 N m (v9, (v10, ((IntKind.wrap .i64 (v11 + (1 : Int))), l))))))
   (some (.inl ())) := by kernel_rfl
theorem m_store_leads_eq (N : Nat) (s : (List Int)) (s2 : (List Int)) (s3 : (List (Int × (Int × (List (Int × Int)))))) (l : (List (Int × Int))) : m_store_leads (N + 1) (s, s2, s3, l) = obind (l_store_leads_1 N N (s3, ((((List.length s3) : Nat) : Int), ((0 : Int), l)))) fun z1 =>
  (match z1 with
  | .inl zy2 => some false
  | .inr zy3 => some zy3) := by kernel_rfl
theorem c_store_leads_ok (N : Nat) : (c_store_leads N).ok Try.prog := exF_ok (T := T) (CT := ct_store_leads) (N := N) (fun M => ⟨tOk, (ctAll_cons (c_slices_ContainsFunc_Lapi_Handle_api_Handle_store_leadsF1_f66ph_ok M) (ctAll_cons (c_slices_ContainsFunc_Lapi_Handle_api_Handle_store_leadsF2_f67ph_ok M) ctAll_nil)), mixed, bwAll⟩) Try.func39 (by kernel_rfl) (by kernel_rfl) p_store_leads _ _ [s2, s2, s12, s5] r_store_leads false true [] (by kernel_rfl) (fun y => by kernel_rfl) (fun _ => ⟨rfl, rfl⟩) (fun y => by kernel_rfl) (m_store_leads N) (fun x => by kernel_rfl)
noncomputable def ct_slices_Backward_Lapi_Handle_api_Handle (N : Nat) : List Ctr := []
def p_slices_Backward_Lapi_Handle_api_Handle : Pl := .z
def r_slices_Backward_Lapi_Handle_api_Handle : PS := ⟨[(2, .cl (.func 69) [] [.k (.pt 900 0)])], [(900, .box 36 [.h s5])], [s5]⟩
noncomputable def m_slices_Backward_Lapi_Handle_api_Handle (N : Nat) : (List (Int × Int)) → Option ((List (Int × Int))) := exF T ct_slices_Backward_Lapi_Handle_api_Handle N (bodyOf Try.f41) 4 p_slices_Backward_Lapi_Handle_api_Handle [.h s5] [] [s5] r_slices_Backward_Lapi_Handle_api_Handle
noncomputable def c_slices_Backward_Lapi_Handle_api_Handle (N : Nat) : Ctr := ⟨41, [.h s5], [], [s5], Tup r_slices_Backward_Lapi_Handle_api_Handle.c, m_slices_Backward_Lapi_Handle_api_Handle N, fun y _ k => k (resG T (mkPS 4 r_slices_Backward_Lapi_Handle_api_Handle y) Try.f41.results.toList) (keepH' [900] (mkPS 4 r_slices_Backward_Lapi_Handle_api_Handle y).h), true, false⟩
theorem m_slices_Backward_Lapi_Handle_api_Handle_eq (N : Nat) (s : (List (Int × Int))) : m_slices_Backward_Lapi_Handle_api_Handle (N + 1) (s) = some s := by kernel_rfl
theorem c_slices_Backward_Lapi_Handle_api_Handle_ok (N : Nat) : (c_slices_Backward_Lapi_Handle_api_Handle N).ok Try.prog := exF_ok (T := T) (CT := ct_slices_Backward_Lapi_Handle_api_Handle) (N := N) (fun M => ⟨tOk, ctAll_nil, mixed, bwAll⟩) Try.func41 (by kernel_rfl) (by kernel_rfl) p_slices_Backward_Lapi_Handle_api_Handle _ _ [s5] r_slices_Backward_Lapi_Handle_api_Handle true false [900] (by kernel_rfl) (fun y => by kernel_rfl) (fun h => by cases h) (fun y => by kernel_rfl) (m_slices_Backward_Lapi_Handle_api_Handle N) (fun x => by kernel_rfl)
noncomputable def ct_pool_Give (N : Nat) : List Ctr := [c_pool_Right N, c_pool_Good N, c_slices_Clip_Lint_int N]
def p_pool_Give : Pl := .z
def r_pool_Give : PS := ⟨[(4, .k (.pt 900 0)), (5, .h s1)], [(900, .box 24 [.h s2, .h s2])], [s1, s2, s2]⟩
noncomputable def m_pool_Give (N : Nat) : (List Int) × (List Int) × Int × Int → Option (Int × (List Int) × (List Int)) := exF T ct_pool_Give N (bodyOf Try.f42) 24 p_pool_Give [.ag [.h s2, .h s2], .ag [.h s1, .h s1]] [] [s2, s2, s1, s1] r_pool_Give
noncomputable def c_pool_Give (N : Nat) : Ctr := ⟨42, [.ag [.h s2, .h s2], .ag [.h s1, .h s1]], [], [s2, s2, s1, s1], Tup r_pool_Give.c, m_pool_Give N, fun y _ k => k (resG T (mkPS 24 r_pool_Give y) Try.f42.results.toList) (keepH' [] (mkPS 24 r_pool_Give y).h), false, false⟩
theorem m_pool_Give_eq (N : Nat) (p : (List Int)) (p2 : (List Int)) (h : Int) (h2 : Int) : m_pool_Give (N + 1) (p, p2, h, h2) = obind (m_pool_Right N (p, p2)) fun z1 =>
  cond (!z1)
   (some ((1 : Int), (p, p2)))
   (obind (m_pool_Good N (p, (p2, (h, h2)))) fun z2 =>
    cond (!z2)
     (some ((3 : Int), (p, p2)))
     (obind (m_slices_Clip_Lint_int N p2) fun z3 =>
      obind (appI (8 : Nat) z3 [h]) fun z4 =>
      some ((0 : Int), (p, z4)))) := by kernel_rfl
theorem c_pool_Give_ok (N : Nat) : (c_pool_Give N).ok Try.prog := exF_ok (T := T) (CT := ct_pool_Give) (N := N) (fun M => ⟨tOk, (ctAll_cons (c_pool_Right_ok M) (ctAll_cons (c_pool_Good_ok M) (ctAll_cons (c_slices_Clip_Lint_int_ok M) ctAll_nil))), mixed, bwAll⟩) Try.func42 (by kernel_rfl) (by kernel_rfl) p_pool_Give _ _ [s2, s2, s1, s1] r_pool_Give false false [] (by kernel_rfl) (fun y => by kernel_rfl) (fun _ => ⟨rfl, rfl⟩) (fun y => by kernel_rfl) (m_pool_Give N) (fun x => by kernel_rfl)
noncomputable def ct_store_Give (N : Nat) : List Ctr := [c_store_Read N, c_store_leads N, c_slices_Clone_Lapi_Node_api_Node N, c_slices_Backward_Lapi_Handle_api_Handle N, c_pool_Give N]
def i_store_Give_1 : PS := ⟨[(4, .k (.pt 900 0)), (9, .k (.pt 901 0))], [(900, .box 27 [.k .nil, .k .nil, .k .nil]), (901, .box 27 [.h s2, .h s2, .k (.ow 902)]), (902, .arr 75 s10 true)], [s2, s2, s12]⟩
def o_store_Give_1 : List (Exit × PS) := [(.normal, ⟨[(4, .k (.pt 900 0)), (9, .k (.pt 901 0))], [(900, .box 27 [.k .nil, .k .nil, .k .nil]), (901, .box 27 [.h s2, .h s2, .k (.ow 902)]), (902, .arr 75 s10 true)], [s2, s2, s12]⟩)]
def p_store_Give_1 : Pl := (.n .z .z)
noncomputable def l_store_Give_1 (N : Nat) : List (Int × (Int × Int)) → (List Int) × (List Int) × (List (Int × (Int × (List (Int × Int))))) → Option ((List Int) × (List Int) × (List (Int × (Int × (List (Int × Int)))))) := rfF (exC T (ct_store_Give N) N (codeAt [1, 1, 1, 1, 0, 1, 0, 0] (bodyOf Try.f13))) (exC T (ct_store_Give N) N (codeAt [1, 1, 1, 1, 0, 1, 0, 1] (bodyOf Try.f13))) 54 i_store_Give_1 o_store_Give_1 p_store_Give_1 (rfPs (codeAt [1, 1, 1, 1, 0, 1, 0] (bodyOf Try.f13))) (rfWr (codeAt [1, 1, 1, 1, 0, 1, 0] (bodyOf Try.f13)))
def p_store_Give : Pl := (.n .z (.n .z (.n .z (.n .z (.n (.n .z (.n (.loop i_store_Give_1 o_store_Give_1 p_store_Give_1) .z)) .z)))))
def r_store_Give : PS := ⟨[(4, .k (.pt 900 0)), (5, .h s1)], [(900, .box 27 [.h s2, .h s2, .h s12])], [s1, s2, s2, s12]⟩
noncomputable def m_store_Give (N : Nat) : (List Int) × (List Int) × (List (Int × (Int × (List (Int × Int))))) × Int × Int → Option (Int × (List Int) × (List Int) × (List (Int × (Int × (List (Int × Int)))))) := exF T ct_store_Give N (bodyOf Try.f13) 54 p_store_Give [.ag [.h s2, .h s2, .h s12], .ag [.h s1, .h s1]] [] [s2, s2, s12, s1, s1] r_store_Give
noncomputable def c_store_Give (N : Nat) : Ctr := ⟨13, [.ag [.h s2, .h s2, .h s12], .ag [.h s1, .h s1]], [], [s2, s2, s12, s1, s1], Tup r_store_Give.c, m_store_Give N, fun y _ k => k (resG T (mkPS 54 r_store_Give y) Try.f13.results.toList) (keepH' [] (mkPS 54 r_store_Give y).h), false, false⟩
theorem l_store_Give_1_z (N : Nat) (out : (List Int)) (out2 : (List Int)) (v902 : (List (Int × (Int × (List (Int × Int)))))) : l_store_Give_1 N [] (out, out2, v902) = some (out, (out2, v902)) := by kernel_rfl
theorem l_store_Give_1_s (N : Nat) (ri rc rg : Int) (rl : List (Int × (Int × Int))) (out : (List Int)) (out2 : (List Int)) (v902 : (List (Int × (Int × (List (Int × Int)))))) : l_store_Give_1 N ((ri, (rc, rg)) :: rl) (out, out2, v902) = obind (m_pool_Give N (out, (out2, (rc, rg)))) fun z1 =>
  obind (nthI v902 rc) fun z2 =>
  obind (nthI v902 rc) fun z3 =>
  (l_store_Give_1 N rl (z1.2.1, (z1.2.2, (List.set v902 (Int.toNat rc) ((0 : Int), ((0 : Int), [])))))) := by kernel_rfl
theorem m_store_Give_eq (N : Nat) (s : (List Int)) (s2 : (List Int)) (s3 : (List (Int × (Int × (List (Int × Int)))))) (h : Int) (h2 : Int) : m_store_Give (N + 1) (s, s2, s3, h, h2) = obind (m_store_Read N (s, (s2, (s3, (h, h2))))) fun z1 =>
  cond (!(decide (z1.1 = (0 : Int))))
   (some (z1.1, (s, (s2, s3))))
   (obind (m_store_leads N (s, (s2, (s3, z1.2.2.2.2)))) fun z2 =>
    cond z2
     (some ((5 : Int), (s, (s2, s3))))
     (obind (m_slices_Clone_Lapi_Node_api_Node N s3) fun z3 =>
      obind (m_slices_Backward_Lapi_Handle_api_Handle N z1.2.2.2.2) fun z4 =>
      obind (l_store_Give_1 N (bwI z4) (s, (s2, z3))) fun z5 =>
      some ((0 : Int), (z5.1, (z5.2.1, z5.2.2))))) := by kernel_rfl
theorem c_store_Give_ok (N : Nat) : (c_store_Give N).ok Try.prog := exF_ok (T := T) (CT := ct_store_Give) (N := N) (fun M => ⟨tOk, (ctAll_cons (c_store_Read_ok M) (ctAll_cons (c_store_leads_ok M) (ctAll_cons (c_slices_Clone_Lapi_Node_api_Node_ok M) (ctAll_cons (c_slices_Backward_Lapi_Handle_api_Handle_ok M) (ctAll_cons (c_pool_Give_ok M) ctAll_nil))))), mixed, bwAll⟩) Try.func13 (by kernel_rfl) (by kernel_rfl) p_store_Give _ _ [s2, s2, s12, s1, s1] r_store_Give false false [] (by kernel_rfl) (fun y => by kernel_rfl) (fun _ => ⟨rfl, rfl⟩) (fun y => by kernel_rfl) (m_store_Give N) (fun x => by kernel_rfl)
noncomputable def ct_ref01_Ints (N : Nat) : List Ctr := []
def i_ref01_Ints_1 : PS := ⟨[(0, .h s2), (1, .h s2), (5, .h s1)], [], [s2, s2, s1]⟩
def o_ref01_Ints_1 : List (Exit × PS) := [((.exit 0), ⟨[], [], []⟩), (.ret, ⟨[(4, .h .b)], [], [.b]⟩)]
def p_ref01_Ints_1 : Pl := .z
noncomputable def l_ref01_Ints_1 (N : Nat) : Nat → (List Int) × (List Int) × Int → Option ((Unit) ⊕ (Bool)) := loopF (exC T (ct_ref01_Ints N) N (codeAt [1, 1, 0, 1, 0, 0] (bodyOf Try.f26))) 26 i_ref01_Ints_1 o_ref01_Ints_1 p_ref01_Ints_1
def p_ref01_Ints : Pl := (.n .z (.n .z (.n (.n .z (.n (.loop i_ref01_Ints_1 o_ref01_Ints_1 p_ref01_Ints_1) .z)) .z)))
def r_ref01_Ints : PS := ⟨[(4, .h .b)], [], [.b]⟩
noncomputable def m_ref01_Ints (N : Nat) : (List Int) × (List Int) → Option (Bool) := exF T ct_ref01_Ints N (bodyOf Try.f26) 26 p_ref01_Ints [.h s2, .h s2] [] [s2, s2] r_ref01_Ints
noncomputable def c_ref01_Ints (N : Nat) : Ctr := ⟨26, [.h s2, .h s2], [], [s2, s2], Tup r_ref01_Ints.c, m_ref01_Ints N, fun y _ k => k (resG T (mkPS 26 r_ref01_Ints y) Try.f26.results.toList) (keepH' [] (mkPS 26 r_ref01_Ints y).h), false, true⟩
theorem l_ref01_Ints_1_s (N m : Nat) (a : (List Int)) (b : (List Int)) (i : Int) : l_ref01_Ints_1 N (m + 1) (a, b, i) = cond (decide (i < (((List.length a) : Nat) : Int)))
   (obind (nthI a i) fun z1 =>
    obind (nthI b i) fun z2 =>
    cond (!(decide (z1 = z2)))
     (some (.inr false))
     ((l_ref01_Ints_1 N m (a, (b, (IntKind.wrap .i64 (i + (1 : Int))))))))
   (some (.inl ())) := by kernel_rfl
theorem m_ref01_Ints_eq (N : Nat) (a : (List Int)) (b : (List Int)) : m_ref01_Ints (N + 1) (a, b) = cond (!(decide ((((List.length a) : Nat) : Int) = (((List.length b) : Nat) : Int))))
   (some false)
   (obind (l_ref01_Ints_1 N N (a, (b, (0 : Int)))) fun z1 =>
    (match z1 with
    | .inl zy2 => some true
    | .inr zy3 => some zy3)) := by kernel_rfl
theorem c_ref01_Ints_ok (N : Nat) : (c_ref01_Ints N).ok Try.prog := exF_ok (T := T) (CT := ct_ref01_Ints) (N := N) (fun M => ⟨tOk, ctAll_nil, mixed, bwAll⟩) Try.func26 (by kernel_rfl) (by kernel_rfl) p_ref01_Ints _ _ [s2, s2] r_ref01_Ints false true [] (by kernel_rfl) (fun y => by kernel_rfl) (fun _ => ⟨rfl, rfl⟩) (fun y => by kernel_rfl) (m_ref01_Ints N) (fun x => by kernel_rfl)
noncomputable def ct_ref14_Lists (N : Nat) : List Ctr := [c_ref01_Ints N]
def i_ref14_Lists_1 : PS := ⟨[(0, .h s3), (1, .h s3), (5, .h s1)], [], [s3, s3, s1]⟩
def o_ref14_Lists_1 : List (Exit × PS) := [((.exit 0), ⟨[], [], []⟩), (.ret, ⟨[(4, .h .b)], [], [.b]⟩)]
def p_ref14_Lists_1 : Pl := .z
noncomputable def l_ref14_Lists_1 (N : Nat) : Nat → (List (List Int)) × (List (List Int)) × Int → Option ((Unit) ⊕ (Bool)) := loopF (exC T (ct_ref14_Lists N) N (codeAt [1, 1, 0, 1, 0, 0] (bodyOf Try.f44))) 27 i_ref14_Lists_1 o_ref14_Lists_1 p_ref14_Lists_1
def p_ref14_Lists : Pl := (.n .z (.n .z (.n (.n .z (.n (.loop i_ref14_Lists_1 o_ref14_Lists_1 p_ref14_Lists_1) .z)) .z)))
def r_ref14_Lists : PS := ⟨[(4, .h .b)], [], [.b]⟩
noncomputable def m_ref14_Lists (N : Nat) : (List (List Int)) × (List (List Int)) → Option (Bool) := exF T ct_ref14_Lists N (bodyOf Try.f44) 27 p_ref14_Lists [.h s3, .h s3] [] [s3, s3] r_ref14_Lists
noncomputable def c_ref14_Lists (N : Nat) : Ctr := ⟨44, [.h s3, .h s3], [], [s3, s3], Tup r_ref14_Lists.c, m_ref14_Lists N, fun y _ k => k (resG T (mkPS 27 r_ref14_Lists y) Try.f44.results.toList) (keepH' [] (mkPS 27 r_ref14_Lists y).h), false, true⟩
theorem l_ref14_Lists_1_s (N m : Nat) (a : (List (List Int))) (b : (List (List Int))) (i : Int) : l_ref14_Lists_1 N (m + 1) (a, b, i) = cond (decide (i < (((List.length a) : Nat) : Int)))
   (obind (nthI a i) fun z1 =>
    obind (nthI b i) fun z2 =>
    obind (m_ref01_Ints N (z1, z2)) fun z3 =>
    cond (!z3)
     (some (.inr false))
     ((l_ref14_Lists_1 N m (a, (b, (IntKind.wrap .i64 (i + (1 : Int))))))))
   (some (.inl ())) := by kernel_rfl
theorem m_ref14_Lists_eq (N : Nat) (a : (List (List Int))) (b : (List (List Int))) : m_ref14_Lists (N + 1) (a, b) = cond (!(decide ((((List.length a) : Nat) : Int) = (((List.length b) : Nat) : Int))))
   (some false)
   (obind (l_ref14_Lists_1 N N (a, (b, (0 : Int)))) fun z1 =>
    (match z1 with
    | .inl zy2 => some true
    | .inr zy3 => some zy3)) := by kernel_rfl
theorem c_ref14_Lists_ok (N : Nat) : (c_ref14_Lists N).ok Try.prog := exF_ok (T := T) (CT := ct_ref14_Lists) (N := N) (fun M => ⟨tOk, (ctAll_cons (c_ref01_Ints_ok M) ctAll_nil), mixed, bwAll⟩) Try.func44 (by kernel_rfl) (by kernel_rfl) p_ref14_Lists _ _ [s3, s3] r_ref14_Lists false true [] (by kernel_rfl) (fun y => by kernel_rfl) (fun _ => ⟨rfl, rfl⟩) (fun y => by kernel_rfl) (m_ref14_Lists N) (fun x => by kernel_rfl)
noncomputable def ct_ref14_Same (N : Nat) : List Ctr := [c_ref01_Ints N, c_ref14_Lists N]
def p_ref14_Same : Pl := .z
def r_ref14_Same : PS := ⟨[(4, .h .b)], [], [.b]⟩
noncomputable def m_ref14_Same (N : Nat) : (List Int) × (List Int) × (List (List Int)) × (List Int) × (List Int) × (List (List Int)) → Option (Bool) := exF T ct_ref14_Same N (bodyOf Try.f15) 24 p_ref14_Same [.ag [.h s2, .h s2, .h s3], .ag [.h s2, .h s2, .h s3]] [] [s2, s2, s3, s2, s2, s3] r_ref14_Same
noncomputable def c_ref14_Same (N : Nat) : Ctr := ⟨15, [.ag [.h s2, .h s2, .h s3], .ag [.h s2, .h s2, .h s3]], [], [s2, s2, s3, s2, s2, s3], Tup r_ref14_Same.c, m_ref14_Same N, fun y _ k => k (resG T (mkPS 24 r_ref14_Same y) Try.f15.results.toList) (keepH' [] (mkPS 24 r_ref14_Same y).h), false, true⟩
theorem m_ref14_Same_eq (N : Nat) (a : (List Int)) (a2 : (List Int)) (a3 : (List (List Int))) (b : (List Int)) (b2 : (List Int)) (b3 : (List (List Int))) : m_ref14_Same (N + 1) (a, a2, a3, b, b2, b3) = obind (m_ref01_Ints N (a, b)) fun z1 =>
  cond z1
   (obind (m_ref01_Ints N (a2, b2)) fun z2 =>
    cond z2
     (obind (m_ref14_Lists N (a3, b3)) fun z3 =>
      some z3)
     (some false))
   (some false) := by kernel_rfl
theorem c_ref14_Same_ok (N : Nat) : (c_ref14_Same N).ok Try.prog := exF_ok (T := T) (CT := ct_ref14_Same) (N := N) (fun M => ⟨tOk, (ctAll_cons (c_ref01_Ints_ok M) (ctAll_cons (c_ref14_Lists_ok M) ctAll_nil)), mixed, bwAll⟩) Try.func15 (by kernel_rfl) (by kernel_rfl) p_ref14_Same _ _ [s2, s2, s3, s2, s2, s3] r_ref14_Same false true [] (by kernel_rfl) (fun y => by kernel_rfl) (fun _ => ⟨rfl, rfl⟩) (fun y => by kernel_rfl) (m_ref14_Same N) (fun x => by kernel_rfl)
noncomputable def ct_ref30_Handles (N : Nat) : List Ctr := []
def i_ref30_Handles_1 : PS := ⟨[(0, .h s5), (1, .h s5), (5, .h s1)], [], [s5, s5, s1]⟩
def o_ref30_Handles_1 : List (Exit × PS) := [((.exit 0), ⟨[], [], []⟩), (.ret, ⟨[(4, .h .b)], [], [.b]⟩)]
def p_ref30_Handles_1 : Pl := .z
noncomputable def l_ref30_Handles_1 (N : Nat) : Nat → (List (Int × Int)) × (List (Int × Int)) × Int → Option ((Unit) ⊕ (Bool)) := loopF (exC T (ct_ref30_Handles N) N (codeAt [1, 1, 0, 1, 0, 0] (bodyOf Try.f16))) 26 i_ref30_Handles_1 o_ref30_Handles_1 p_ref30_Handles_1
def p_ref30_Handles : Pl := (.n .z (.n .z (.n (.n .z (.n (.loop i_ref30_Handles_1 o_ref30_Handles_1 p_ref30_Handles_1) .z)) .z)))
def r_ref30_Handles : PS := ⟨[(4, .h .b)], [], [.b]⟩
noncomputable def m_ref30_Handles (N : Nat) : (List (Int × Int)) × (List (Int × Int)) → Option (Bool) := exF T ct_ref30_Handles N (bodyOf Try.f16) 26 p_ref30_Handles [.h s5, .h s5] [] [s5, s5] r_ref30_Handles
noncomputable def c_ref30_Handles (N : Nat) : Ctr := ⟨16, [.h s5, .h s5], [], [s5, s5], Tup r_ref30_Handles.c, m_ref30_Handles N, fun y _ k => k (resG T (mkPS 26 r_ref30_Handles y) Try.f16.results.toList) (keepH' [] (mkPS 26 r_ref30_Handles y).h), false, true⟩
theorem l_ref30_Handles_1_s (N m : Nat) (a : (List (Int × Int))) (b : (List (Int × Int))) (i : Int) : l_ref30_Handles_1 N (m + 1) (a, b, i) = cond (decide (i < (((List.length a) : Nat) : Int)))
   (obind (nthI a i) fun z1 =>
    obind (nthI b i) fun z2 =>
    cond (!((decide (z1.1 = z2.1)) && (decide (z1.2 = z2.2))))
     (some (.inr false))
     ((l_ref30_Handles_1 N m (a, (b, (IntKind.wrap .i64 (i + (1 : Int))))))))
   (some (.inl ())) := by kernel_rfl
theorem m_ref30_Handles_eq (N : Nat) (a : (List (Int × Int))) (b : (List (Int × Int))) : m_ref30_Handles (N + 1) (a, b) = cond (!(decide ((((List.length a) : Nat) : Int) = (((List.length b) : Nat) : Int))))
   (some false)
   (obind (l_ref30_Handles_1 N N (a, (b, (0 : Int)))) fun z1 =>
    (match z1 with
    | .inl zy2 => some true
    | .inr zy3 => some zy3)) := by kernel_rfl
theorem c_ref30_Handles_ok (N : Nat) : (c_ref30_Handles N).ok Try.prog := exF_ok (T := T) (CT := ct_ref30_Handles) (N := N) (fun M => ⟨tOk, ctAll_nil, mixed, bwAll⟩) Try.func16 (by kernel_rfl) (by kernel_rfl) p_ref30_Handles _ _ [s5, s5] r_ref30_Handles false true [] (by kernel_rfl) (fun y => by kernel_rfl) (fun _ => ⟨rfl, rfl⟩) (fun y => by kernel_rfl) (m_ref30_Handles N) (fun x => by kernel_rfl)
end Go.Proofs.Ytdahghkmejnlgaa
end
