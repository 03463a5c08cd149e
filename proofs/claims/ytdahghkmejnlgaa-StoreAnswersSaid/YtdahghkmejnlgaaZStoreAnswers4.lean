/- StoreAnswers: the seat's texts as one (4 of 6; printed by wip/prune.py). -/
import Derived.Test.YtdahghkmejnlgaaZStoreAnswers3
section
set_option linter.unusedVariables false
set_option linter.unusedSimpArgs false
namespace Go.Proofs.Ytdahghkmejnlgaa
open Go Go.ChangeShapes Go.WideShapes Go.ChangeAt Go.RowKit
/-- a value aS it may come in -/
def Fits : (s : Sc) → s.Val → Prop
  | .i k, x => k.min ≤ x ∧ x ≤ k.max
  | .b, _ => True
  | .sl r, xs => xs.length ≤ maxLen ∧ ∀ x ∈ xs, Fits r x
  | .pr a c, p => Fits a p.1 ∧ Fits c p.2
  | .u, _ => True
/-- no greater than the form's own reach -/
def Siz : (s : Sc) → s.Val → Prop
  | .sl r, xs => xs.length ≤ reachBytes ∧ ∀ x ∈ xs, Siz r x
  | .pr a c, p => Siz a p.1 ∧ Siz c p.2
  | _, _ => True
def fieldsC (P : Program) (chk : TypeId → Sc → Bool) : List Field → Nat → Sc → Bool
  | [], _, _ => false
  | [f], o, s => chk f.type s && Nat.beq f.offset o && Nat.beq (P.cellsOf f.type) s.w
  | f :: g :: r, o, .pr s t => chk f.type s && Nat.beq f.offset o && Nat.beq (P.cellsOf f.type) s.w && fieldsC P chk (g :: r) (o + s.w) t
  | _ :: _ :: _, _, _ => false
def arrC (w : Nat) (chk : Sc → Bool) : Nat → Sc → Bool
  | 0, _ => false
  | 1, s => chk s && Nat.beq w s.w
  | n + 2, .pr s t => chk s && Nat.beq w s.w && arrC w chk (n + 1) t
  | _ + 2, _ => false
/-- the type has the code -/
def tyC (P : Program) : Nat → TypeId → Sc → Bool
  | 0, _, _ => false
  | d + 1, t, s => match P.underlying t with
    | some (.int k) => (match s with
      | .i l => decide (k = l)
      | _ => false)
    | some .bool => (match s with
      | .b => true
      | _ => false)
    | some (.slice e) => (match s with
      | .sl r => tyC P d e r && Nat.beq (P.cellsOf e) r.w && Nat.blt 0 r.w && Nat.blt 0 (P.bytesOf e)
      | _ => false)
    | some (.struct fs) => fieldsC P (tyC P d) fs.toList 0 s && Nat.beq (P.cellsOf t) s.w
    | some (.array n e) => arrC (P.cellsOf e) (tyC P d e) n s && Nat.beq (P.cellsOf t) s.w
    | _ => false
/-- what a world's memory holds -/
def Rw (w : World) (b o : Nat) (u : Value) : Prop := w.cell? ⟨b, o, none⟩ = some u
def b0 (w : World) : Bs := ⟨w, fun _ => False, fun _ => none, fun _ => undef, []⟩
def e0 : Env := ⟨fun _ => none, fun _ => undef, fun _ => 0⟩
def Tabs (w : World) : Prop := ∀ b o u, GT b o u → w.cell? ⟨b, o, none⟩ = some u
theorem sr0 (w : World) (hT : Tabs w) : SR (b0 w) (Rw w) e0 [] w :=
  ⟨⟨rfl, rfl, rfl, Nat.le_refl _, fun _ _ => rfl⟩, ⟨fun b o u h => ⟨h, fun hm => by
    have := World.block_lt_of_cell? w _ h
    rcases hm with hm | hm
    · simp only [b0] at hm; simp only at this; omega
    · exact hm⟩, hT⟩, fun _ _ h => by simp [hget] at h, fun _ _ _ h => by simp [hget] at h, fun _ _ _ _ _ h => by simp [hget] at h, fun _ _ => ⟨rfl, rfl⟩⟩
theorem rdx0 {w : World} {b o : Nat} {u : Value} (h : Rw w b o u) : RDx (b0 w) (Rw w) e0 [] w b o u := ⟨h, fun _ => h, fun _ _ h => by simp [hget] at h⟩
theorem beq_of {a b : Nat} (h : Nat.beq a b = true) : a = b := Nat.eq_of_beq_eq_true h
theorem blt_of {a b : Nat} (h : Nat.blt a b = true) : a < b := Nat.le_of_ble_eq_true h
section
variable {H : Type} {enc : TypeId × Value → H} {P : Program} {w : World} {base : Nat} {spare : Nat → Bool} {held : Bool}
def wOk (P : Program) (t : TypeId) (x : DataW H) : Prop := ∀ n ∈ x.weights P t, n ≤ reachBytes
theorem wOk_all {e : TypeId} : ∀ {l : List (DataW H × List MemPlace)}, (∀ n ∈ DataW.weightsAll P e (l.map (·.1)), n ≤ reachBytes) → ∀ (i : Nat) x, l[i]? = some x → wOk P e x.1
  | [], _, i, x, h => by simp at h
  | y :: l, hw, i, x, h => by
    simp only [List.map_cons, DataW.weightsAll, List.mem_append] at hw
    cases i with
    | zero => simp at h; subst h; exact fun n hn => hw n (.inl hn)
    | succ i => exact wOk_all (fun n hn => hw n (.inr hn)) i x (by simpa using h)
theorem wOk_each : ∀ {fs : List Field} {l : List (DataW H × List MemPlace)}, (∀ n ∈ DataW.weightsEach P (fs.map (·.type)) (l.map (·.1)), n ≤ reachBytes) → ∀ (i : Nat) f x, fs[i]? = some f → l[i]? = some x → wOk P f.type x.1
  | [], _, _, i, f, x, h, _ => by simp at h
  | _ :: _, [], _, i, f, x, _, h => by simp at h
  | g :: fs, y :: l, hw, i, f, x, hf, h => by
    simp only [List.map_cons, DataW.weightsEach, List.mem_append] at hw
    cases i with
    | zero => simp at h hf; subst h; subst hf; exact fun n hn => hw n (.inl hn)
    | succ i => exact wOk_each (fun n hn => hw n (.inr hn)) i f x (by simpa using hf) (by simpa using h)
def OpensAt (enc : TypeId × Value → H) (P : Program) (w : World) (base : Nat) (spare : Nat → Bool) (held : Bool) (n : Nat) (t : TypeId) (s : Sc) : Prop :=
  ∀ cs x, DataW.trod enc P w base spare held n t cs = some x → ∃ y : s.Val, LR (VR (Rw w) none) (encC s y) cs ∧ Fits s y ∧ (wOk P t x.1 → Siz s y)
theorem open_fields {WA : Prop} {chk : TypeId → Sc → Bool} {n : Nat} (hc : ∀ t s, chk t s = true → OpensAt enc P w base spare held n t s) (cs : List Value) :
    ∀ (fs : List Field) (o : Nat) (s : Sc) (xs : List (DataW H × List MemPlace)), fieldsC P chk fs o s = true → xs.length = fs.length →
      (∀ (i : Nat) (f : Field), fs[i]? = some f → DataW.trod enc P w base spare held n f.type ((cs.drop f.offset).take (P.cellsOf f.type)) = xs[i]?) → (WA → ∀ (i : Nat) f x, fs[i]? = some f → xs[i]? = some x → wOk P f.type x.1) →
      ∃ y : s.Val, LR (VR (Rw w) none) (encC s y) ((cs.drop o).take s.w) ∧ Fits s y ∧ (WA → Siz s y)
  | [], o, s, xs, h, _, _, _ => by simp [fieldsC] at h
  | [f], o, s, xs, h, hl, hx, hwa => by
    simp only [fieldsC, Bool.and_eq_true] at h
    obtain ⟨⟨h1, h2⟩, h3⟩ := h
    have := hx 0 f rfl
    rw [beq_of h2, beq_of h3] at this
    have hl0 : 0 < xs.length := by rw [hl]; simp
    rw [List.getElem?_eq_getElem hl0] at this
    obtain ⟨y, hy, fy, sy⟩ := hc _ _ h1 _ _ this
    exact ⟨y, hy, fy, fun ha => sy (hwa ha 0 f _ rfl (List.getElem?_eq_getElem hl0))⟩
  | f :: g :: r, o, s, xs, h, hl, hx, hwa => by
    cases s with
    | pr a c =>
      simp only [fieldsC, Bool.and_eq_true] at h
      obtain ⟨⟨⟨h1, h2⟩, h3⟩, h4⟩ := h
      have := hx 0 f rfl
      rw [beq_of h2, beq_of h3] at this
      have hl0 : 0 < xs.length := by rw [hl]; simp
      rw [List.getElem?_eq_getElem hl0] at this
      obtain ⟨y1, hy1, f1, s1⟩ := hc _ _ h1 _ _ this
      obtain ⟨y2, hy2, f2, s2⟩ := open_fields hc cs (g :: r) (o + a.w) c xs.tail h4 (by simp [hl]) (fun i f' hf => by
        have := hx (i + 1) f' (by simpa using hf)
        rw [this]; cases xs <;> simp) (fun ha i f' x hf hx' => hwa ha (i + 1) f' x (by simpa using hf) (by cases xs with | nil => simp at hx' | cons y ys => simpa using hx'))
      refine ⟨(y1, y2), ?_, ⟨f1, f2⟩, fun ha => ⟨s1 (hwa ha 0 f _ rfl (List.getElem?_eq_getElem hl0)), s2 ha⟩⟩
      rw [encC, Sc.w, List.take_add]
      rw [List.drop_drop]
      exact hy1.append hy2
    | _ => simp [fieldsC] at h
theorem open_arr {WA : Prop} {chk : Sc → Bool} {n : Nat} {e : TypeId} {ew : Nat} (hc : ∀ s, chk s = true → OpensAt enc P w base spare held n e s) (cs : List Value) :
    ∀ (m : Nat) (o : Nat) (s : Sc), arrC ew chk m s = true →
      (∀ i, i < m → ∃ x, DataW.trod enc P w base spare held n e ((cs.drop (o + i * ew)).take ew) = some x ∧ (WA → wOk P e x.1)) →
      ∃ y : s.Val, LR (VR (Rw w) none) (encC s y) ((cs.drop o).take s.w) ∧ Fits s y ∧ (WA → Siz s y)
  | 0, o, s, h, _ => by simp [arrC] at h
  | 1, o, s, h, hx => by
    simp only [arrC, Bool.and_eq_true] at h
    obtain ⟨h1, h2⟩ := h
    obtain ⟨x, this, hwx⟩ := hx 0 (by omega)
    rw [Nat.zero_mul, Nat.add_zero, beq_of h2] at this
    obtain ⟨y, hy, fy, sy⟩ := hc _ h1 _ _ this
    exact ⟨y, hy, fy, fun ha => sy (hwx ha)⟩
  | m + 2, o, s, h, hx => by
    cases s with
    | pr a c =>
      simp only [arrC, Bool.and_eq_true] at h
      obtain ⟨⟨h1, h2⟩, h3⟩ := h
      obtain ⟨x, this, hwx⟩ := hx 0 (by omega)
      have e2 := beq_of h2
      rw [Nat.zero_mul, Nat.add_zero, e2] at this
      obtain ⟨y1, hy1, f1, s1⟩ := hc _ h1 _ _ this
      obtain ⟨y2, hy2, f2, s2⟩ := open_arr hc cs (m + 1) (o + a.w) c h3 (fun i hi => by
        obtain ⟨x, hx', hwx'⟩ := hx (i + 1) (by omega)
        refine ⟨x, ?_, hwx'⟩
        rw [← hx', e2]
        congr 3
        rw [Nat.add_mul]; omega)
      refine ⟨(y1, y2), ?_, ⟨f1, f2⟩, fun ha => ⟨s1 (hwx ha), s2 ha⟩⟩
      rw [encC, Sc.w, List.take_add]
      rw [List.drop_drop]
      exact hy1.append hy2
    | _ => simp [arrC] at h
theorem open_rows {WA : Prop} {n : Nat} {e : TypeId} {r : Sc} (hr : OpensAt enc P w base spare held n e r) (hce : P.cellsOf e = r.w) (h0 : 0 < r.w) {a : Addr} {len : Nat} {elems : List (DataW H × List MemPlace)} (hel : elems.length = len)
    (he : ∀ i, i < len → (w.cells? base (a.add (i * P.cellsOf e)) (P.cellsOf e)).bind (DataW.trod enc P w base spare held n e) = elems[i]?) (hwa : WA → ∀ (i : Nat) x, elems[i]? = some x → wOk P e x.1) :
    ∀ m, m ≤ len → ∃ ys : List r.Val, ys.length = m ∧ ((∀ y ∈ ys, Fits r y) ∧ (WA → ∀ y ∈ ys, Siz r y)) ∧ ∃ us, LR (VR (Rw w) none) (ys.map (encC r)).flatten us ∧ ∀ j u, us[j]? = some u → a.spot = none ∧ w.cell? ⟨a.block, a.off + j, none⟩ = some u
  | 0, _ => ⟨[], rfl, by simp, [], LR.nil, by simp⟩
  | m + 1, hm => by
    obtain ⟨ys, hl, ⟨hf, hsz⟩, us, hlr, hus⟩ := open_rows hr hce h0 hel he hwa m (by omega)
    have h := he m (by omega)
    have hml : m < elems.length := by omega
    rw [List.getElem?_eq_getElem hml] at h
    obtain ⟨cs, hcs, hx⟩ := Option.bind_eq_some_iff.1 h
    obtain ⟨y, hy, fy, sy⟩ := hr _ _ hx
    obtain ⟨hb, hcl, hcc⟩ := World.cells?_some hcs
    rw [hce] at hcl hcc
    have hlen : us.length = m * r.w := by
      rw [hlr.1, flatten_len (sz := r.w)]
      · simp [hl]
      · intro q hq
        obtain ⟨z, _, rfl⟩ := List.mem_map.1 hq
        exact encC_len r z
    have hspot : a.spot = none := by
      have := hcc 0 h0
      rw [List.getElem?_eq_getElem (by omega)] at this
      by_cases hz : m = 0
      · subst hz
        have hzz : (a.add (0 * r.w)).add 0 = a := by simp [Addr.add]
        rw [hzz] at this
        unfold World.cell? at this
        split at this
        · split at this
          · cases this
          · rename_i hs; simpa using hs
        · cases this
      · have hu : ∃ u, us[0]? = some u := ⟨us[0]'(by rw [hlen]; exact Nat.mul_pos (by omega) h0), List.getElem?_eq_getElem _⟩
        obtain ⟨u, hu⟩ := hu
        exact (hus 0 u hu).1
    refine ⟨ys ++ [y], by simp [hl], ⟨fun z hz => ?_, fun ha z hz => ?_⟩, us ++ cs, ?_, fun j u hj => ⟨hspot, ?_⟩⟩
    · rcases List.mem_append.1 hz with hz | hz
      · exact hf z hz
      · simp only [List.mem_singleton] at hz; subst hz; exact fy
    · rcases List.mem_append.1 hz with hz | hz
      · exact hsz ha z hz
      · simp only [List.mem_singleton] at hz; subst hz; exact sy (hwa ha m _ (List.getElem?_eq_getElem hml))
    · rw [List.map_append, List.flatten_append]
      simpa using hlr.append hy
    · by_cases hjl : j < us.length
      · rw [List.getElem?_append_left hjl] at hj
        exact (hus j u hj).2
      · rw [List.getElem?_append_right (by omega)] at hj
        have hjc : j - us.length < cs.length := (List.getElem?_eq_some_iff.1 hj).1
        have := hcc (j - us.length) (by omega)
        rw [hj] at this
        have ea : (a.add (m * r.w)).add (j - us.length) = ⟨a.block, a.off + j, none⟩ := by
          obtain ⟨b, o, sp⟩ := a
          simp only at hspot
          subst hspot
          rw [add_plain, add_plain]
          have hj2 : us.length ≤ j := by omega
          rw [hlen] at hj2 ⊢
          generalize m * r.w = q at hj2
          have e3 : o + q + (j - q) = o + j := by omega
          rw [e3]
        rw [ea] at this
        exact this
theorem open_code : ∀ (d : Nat) (t : TypeId) (s : Sc), tyC P d t s = true → ∀ n, OpensAt enc P w base spare held n t s
  | 0, t, s, h, n => by simp [tyC] at h
  | d + 1, t, s, h, n => by
    intro cs x hx
    unfold tyC at h
    split at h
    · rename_i k hk
      cases s with
      | i l =>
        obtain rfl : k = l := of_decide_eq_true h
        obtain ⟨z, rfl, -, hw⟩ := DataW.trod_int hk hx
        simp only [Lit.wf, Bool.and_eq_true, decide_eq_true_eq] at hw
        exact ⟨z, LR.cons .v LR.nil, hw, fun _ => trivial⟩
      | _ => simp at h
    · rename_i hk
      cases s with
      | b =>
        obtain ⟨z, rfl, -⟩ := DataW.trod_bool hk hx
        exact ⟨z, LR.cons .v LR.nil, trivial, fun _ => trivial⟩
      | _ => simp at h
    · rename_i e hk
      cases s with
      | sl r =>
        simp only [Bool.and_eq_true] at h
        obtain ⟨⟨⟨h1, h2⟩, h3⟩, h4⟩ := h
        rcases DataW.trod_slice hk hx with ⟨rfl, -⟩ | ⟨a, len, cap, elems, rest, m, rfl, rfl, rfl, hb, hlc, hcm, hel, he, -, -⟩
        · refine ⟨([] : List r.Val), LR.cons ?_ LR.nil, ?_, fun _ => ⟨Nat.zero_le _, by simp⟩⟩
          · exact .sl (rows := []) [] (by simp) (by simp) rfl (by simp) (Nat.le_refl _) (Nat.zero_le _) (by simp) (by simp)
          · exact ⟨Nat.zero_le _, by simp⟩
        · have hwe : wOk P t (.slice (elems.map (·.1)) (rest.map (·.1)) : DataW H) → ((elems.length + rest.length) * P.bytesOf e ≤ reachBytes) ∧ ∀ (i : Nat) x, elems[i]? = some x → wOk P e x.1 := fun ha => by
            have e1 : DataW.weights P t (.slice (elems.map (·.1)) (rest.map (·.1)) : DataW H) = (elems.length + rest.length) * P.bytesOf e :: (DataW.weightsAll P e (elems.map (·.1)) ++ DataW.weightsAll P e (rest.map (·.1))) := by
              simp [DataW.weights, hk]
            unfold wOk at ha
            rw [e1] at ha
            exact ⟨ha _ (by simp), wOk_all fun n hn => ha n (by simp [hn])⟩
          obtain ⟨ys, hl, ⟨hf, hsz⟩, us, hlr, hus⟩ := open_rows (WA := wOk P t (.slice (elems.map (·.1)) (rest.map (·.1)) : DataW H)) (open_code d e r h1 m) (beq_of h2) (blt_of h3) hel he (fun ha => (hwe ha).2) len (Nat.le_refl _)
          refine ⟨ys, LR.cons ?_ LR.nil, ?_, fun ha => ⟨?_, hsz ha⟩⟩
          · have hlm : (List.map (encC r) ys).length = len := by simp [hl]
            have := VR.sl (Rd := Rw w) (E := none) (tight := false) (sz := r.w) (rows := List.map (encC r) ys) (a := some a) (cap := cap) us
              (fun q hq => by obtain ⟨z, _, rfl⟩ := List.mem_map.1 hq; exact encC_len r z)
              (fun c hc => by
                obtain ⟨q, hq, hcq⟩ := List.mem_flatten.1 hc
                obtain ⟨z, _, rfl⟩ := List.mem_map.1 hq
                exact encC_one r z c hcq)
              hlr.1 hlr.2 (by omega) hcm (by simp) (fun hne => by
                have hp : 0 < us.length := List.length_pos_iff.2 hne
                have hsp := (hus 0 us[0] (List.getElem?_eq_getElem hp)).1
                obtain ⟨b, o, sp⟩ := a
                simp only at hsp
                subst hsp
                exact ⟨b, o, rfl, fun j u hj => (hus j u hj).2⟩)
            rw [hlm] at this
            exact this
          · exact ⟨by omega, hf⟩
          · have h5 := (hwe ha).1
            have h6 : elems.length * 1 ≤ (elems.length + rest.length) * P.bytesOf e := Nat.mul_le_mul (Nat.le_add_right _ _) (blt_of h4)
            rw [hl, ← hel]; omega
      | _ => simp at h
    · rename_i fs hk
      simp only [Bool.and_eq_true] at h
      obtain ⟨h1, h2⟩ := h
      obtain ⟨xs, m, rfl, rfl, hcl, hxl, hxi⟩ := DataW.trod_struct hk hx
      obtain ⟨y, hy, fy, sy⟩ := open_fields (WA := wOk P t (.agg (xs.map (·.1)) : DataW H)) (fun t s hts => open_code d t s hts m) cs fs.toList 0 s xs h1 (by simpa using hxl) (fun i f hf => hxi i f (by simpa using hf)) (fun ha => by
        have e1 : DataW.weights P t (.agg (xs.map (·.1)) : DataW H) = DataW.weightsEach P (fs.toList.map (·.type)) (xs.map (·.1)) := by simp [DataW.weights, hk]
        unfold wOk at ha
        rw [e1] at ha
        exact wOk_each ha)
      refine ⟨y, ?_, fy, sy⟩
      rw [List.drop_zero, List.take_of_length_le (by rw [hcl, beq_of h2]; exact Nat.le_refl _)] at hy
      exact hy
    · rename_i m e hk
      simp only [Bool.and_eq_true] at h
      obtain ⟨h1, h2⟩ := h
      obtain ⟨xs, m', rfl, rfl, hcl, hxl, hxi⟩ := DataW.trod_array hk hx
      have hwe : wOk P t (.agg (xs.map (·.1)) : DataW H) → ∀ (i : Nat) x, xs[i]? = some x → wOk P e x.1 := fun ha => by
        have e1 : DataW.weights P t (.agg (xs.map (·.1)) : DataW H) = DataW.weightsAll P e (xs.map (·.1)) := by simp [DataW.weights, hk]
        unfold wOk at ha
        rw [e1] at ha
        exact wOk_all ha
      obtain ⟨y, hy, fy, sy⟩ := open_arr (WA := wOk P t (.agg (xs.map (·.1)) : DataW H)) (ew := P.cellsOf e) (fun s hts => open_code d e s hts m') cs m 0 s h1 (fun i hi => by
        have := hxi i hi
        have hil : i < xs.length := by omega
        rw [List.getElem?_eq_getElem hil] at this
        exact ⟨_, by rw [Nat.zero_add]; exact this, fun ha => hwe ha i _ (List.getElem?_eq_getElem hil)⟩)
      refine ⟨y, ?_, fy, sy⟩
      rw [List.drop_zero, List.take_of_length_le (by rw [hcl, beq_of h2]; exact Nat.le_refl _)] at hy
      exact hy
    · cases h
/-- is it a struct's or an array's type? -/
def aggB (P : Program) (t : TypeId) : Bool := match P.underlying t with
  | some (.struct _) => true
  | some (.array _ _) => true
  | _ => false
/-- AN ARGUMENT -/
theorem open_argz {r : Reach} {b0 d : Nat} {t : TypeId} {s : Sc} {v : Value} {x : DataW H} {ps : List MemPlace} (hs : tyC P d t s = true) (hv : Value.okWide P w r b0 t v) (h : DataW.Trod enc P w base spare held t v x ps) :
    ∃ y : s.Val, Fits s y ∧ (wOk P t x → Siz s y) ∧ (aggB P t = true → VR (Rw w) none (.ag (encC s y)) v) ∧ (aggB P t = false → VR (Rw w) none (encS s y) v) := by
  obtain ⟨n, h⟩ := h
  obtain ⟨y, hy, fy, sy⟩ := open_code d t s hs n _ _ h
  refine ⟨y, fy, sy, fun ha => ?_, fun ha => ?_⟩
  · unfold aggB at ha
    unfold Value.okWide at hv
    have hcs : ∃ cs, v = .agg cs := by
      split at ha
      · rename_i hk; rw [hk] at hv; obtain ⟨cs, h, -⟩ := hv; exact ⟨cs, h⟩
      · rename_i hk; rw [hk] at hv; obtain ⟨cs, h, -⟩ := hv; exact ⟨cs, h⟩
      · cases ha
    obtain ⟨cs, rfl⟩ := hcs
    have := VR.ag (E := none) (Rd := Rw w) cs.toList hy.1 hy.2
    simpa using this
  · cases d with
    | zero => simp [tyC] at hs
    | succ d =>
      unfold tyC at hs
      unfold aggB at ha
      split at hs
      · rename_i k hk
        cases s with
        | i l =>
          obtain ⟨z, rfl⟩ := okWide_int hk hv
          have h1 := hy.2 0 _ _ rfl rfl
          exact h1
        | _ => simp at hs
      · rename_i hk
        cases s with
        | b =>
          obtain ⟨z, rfl⟩ := okWide_bool hk hv
          have h1 := hy.2 0 _ _ rfl rfl
          exact h1
        | _ => simp at hs
      · rename_i e hk
        cases s with
        | sl r =>
          obtain ⟨a, len, cap, rfl⟩ := okWide_slice hk hv
          have h1 := hy.2 0 _ _ rfl rfl
          exact h1
        | _ => simp at hs
      · rename_i fs hk; rw [hk] at ha; cases ha
      · rename_i m e hk; rw [hk] at ha; cases ha
      · cases hs
end
/-- from a contract to the call -/
theorem calls_of_ctr {P : Program} {f : FuncId} {ps : List PV} {cs : List Sc} {α : Type} {M : Tup cs → Option α} {el : α → (R : Type) → (EV → EHp → Option R) → Option R} {own pu : Bool} (hc : Ctr.ok P ⟨f, ps, [], cs, α, M, el, own, pu⟩) {x : Tup cs} {y : α} (hm : M x = some y)
    {w : World} (hT : Tabs w) {vs : List Value} (hv : LR (VR (Rw w) none) (encL (fillPs ps (splitT cs x)).1) vs) {r : Value} (hr : el y EV (fun e _ => some e) = some (.sc .b true)) (hb : r = .bool true) : Calls P f vs.toArray w fun e w' => e = .returned r ∧ Ext w w' := by
  obtain ⟨c, H, h1, _, _, h2⟩ := hc.2 x y hm
  have hr : (some c : Option EV) = some (.sc .b true) := (h1 EV fun e _ => some e).symm.trans hr
  obtain rfl := Option.some.inj hr
  refine (h2.2 (b0 w) (Rw w) e0 w vs (sr0 w hT) (hv.imp fun _ _ h => (h.mono fun _ _ _ h => rdx0 h).some_of_none)).mono fun e w' h => ?_
  obtain ⟨v, en, rfl, hs, hvr⟩ := h
  change VR _ _ (enc (.sc .b true)) v at hvr
  refine ⟨?_, hs.ext.ext fun _ h => h⟩
  subst hb
  cases hvr
  rfl
end Go.Proofs.Ytdahghkmejnlgaa
end
section
set_option linter.unusedVariables false
namespace Go.Proofs.Ytdahghkmejnlgaa
open Go Go.RowKit
def ti1 : TInfo := { ty := some (false, 1), ze := some [Value.nilFunc] }
def ti2 : TInfo := { ty := some (false, 1), ze := some [Value.int IntKind.i64 0], ik := some IntKind.i64 }
def ti3 : TInfo := { ty := some (false, 1), ze := some [Value.int IntKind.i64 0], ik := some IntKind.i64 }
def ti4 : TInfo := { ty := some (false, 1), bo := true, ze := some [Value.bool false] }
def ti5 : TInfo := { ty := some (false, 1), ze := some [Value.int IntKind.u8 0], ik := some IntKind.u8 }
def ti6 : TInfo := { ty := some (false, 1), ze := some [Value.int IntKind.u8 0], ik := some IntKind.u8 }
def ti7 : TInfo := { ty := some (true, 4), fd := [(0, false, 1), (1, false, 1), (2, false, 1), (3, false, 1)], pl := some ([Value.int IntKind.i64 0, Value.int IntKind.i64 0, Value.bool false, Value.int IntKind.u8 0], [(0, 1), (1, 1), (2, 1), (3, 1)]), ze := some [Value.int IntKind.i64 0, Value.int IntKind.i64 0, Value.bool false, Value.int IntKind.u8 0], eq := some ((Sc.i IntKind.i64).pr ((Sc.i IntKind.i64).pr (Sc.b.pr (Sc.i IntKind.u8)))) }
def ti8 : TInfo := { ty := some (true, 4), fd := [(0, false, 1), (1, false, 1), (2, false, 1), (3, false, 1)], pl := some ([Value.int IntKind.i64 0, Value.int IntKind.i64 0, Value.bool false, Value.int IntKind.u8 0], [(0, 1), (1, 1), (2, 1), (3, 1)]), ze := some [Value.int IntKind.i64 0, Value.int IntKind.i64 0, Value.bool false, Value.int IntKind.u8 0], eq := some ((Sc.i IntKind.i64).pr ((Sc.i IntKind.i64).pr (Sc.b.pr (Sc.i IntKind.u8)))) }
def ti12 : TInfo := { ty := some (false, 1), ze := some [Value.int IntKind.u64 0], ik := some IntKind.u64 }
def ti15 : TInfo := { ty := some (false, 1), ze := some [Value.pointer none] }
def ti16 : TInfo := { ty := some (false, 1), ze := some [Value.pointer none] }
def ti17 : TInfo := { ty := some (false, 1), ze := some [Value.pointer none] }
def ti18 : TInfo := { ty := some (true, 1), fd := [(0, false, 1)], pl := some ([Value.pointer none], [(0, 1)]), ze := some [Value.pointer none] }
def ti19 : TInfo := { ty := some (true, 1), fd := [(0, false, 1)], pl := some ([Value.pointer none], [(0, 1)]), ze := some [Value.pointer none] }
def ti21 : TInfo := { ty := some (false, 1), ze := some [Value.int IntKind.i32 0], ik := some IntKind.i32 }
def ti22 : TInfo := { ty := some (false, 1), el := some (3, 1, 8, [Value.int IntKind.i64 0]), slT := true, ze := some [Value.slice none 0 0], co := some (Sc.i IntKind.i64) }
def ti23 : TInfo := { ty := some (true, 2), fd := [(0, false, 1), (1, false, 1)], pl := some ([Value.slice none 0 0, Value.slice none 0 0], [(0, 1), (1, 1)]), ze := some [Value.slice none 0 0, Value.slice none 0 0] }
def ti24 : TInfo := { ty := some (true, 2), fd := [(0, false, 1), (1, false, 1)], pl := some ([Value.slice none 0 0, Value.slice none 0 0], [(0, 1), (1, 1)]), ze := some [Value.slice none 0 0, Value.slice none 0 0] }
def ti25 : TInfo := { ty := some (false, 1), el := some (75, 3, 40, [Value.int IntKind.i64 0, Value.int IntKind.i64 0, Value.slice none 0 0]), slT := true, ze := some [Value.slice none 0 0], co := some ((Sc.i IntKind.i64).pr ((Sc.i IntKind.i64).pr ((Sc.i IntKind.i64).pr (Sc.i IntKind.i64)).sl)) }
def ti26 : TInfo := { ty := some (true, 3), fd := [(0, true, 2), (2, false, 1)], pl := some ([Value.slice none 0 0, Value.slice none 0 0, Value.slice none 0 0], [(0, 2), (2, 1)]), ze := some [Value.slice none 0 0, Value.slice none 0 0, Value.slice none 0 0] }
def ti27 : TInfo := { ty := some (true, 3), fd := [(0, true, 2), (2, false, 1)], pl := some ([Value.slice none 0 0, Value.slice none 0 0, Value.slice none 0 0], [(0, 2), (2, 1)]), ze := some [Value.slice none 0 0, Value.slice none 0 0, Value.slice none 0 0] }
def ti28 : TInfo := { ty := some (true, 2), fd := [(0, false, 1), (1, false, 1)], pl := some ([Value.int IntKind.i64 0, Value.int IntKind.i64 0], [(0, 1), (1, 1)]), ze := some [Value.int IntKind.i64 0, Value.int IntKind.i64 0], eq := some ((Sc.i IntKind.i64).pr (Sc.i IntKind.i64)) }
def ti29 : TInfo := { ty := some (true, 2), fd := [(0, false, 1), (1, false, 1)], pl := some ([Value.int IntKind.i64 0, Value.int IntKind.i64 0], [(0, 1), (1, 1)]), ze := some [Value.int IntKind.i64 0, Value.int IntKind.i64 0], eq := some ((Sc.i IntKind.i64).pr (Sc.i IntKind.i64)) }
def ti30 : TInfo := { ty := some (false, 1), ze := some [Value.nilFunc] }
def ti31 : TInfo := { ty := some (false, 1), ze := some [Value.nilFunc] }
def ti32 : TInfo := { ty := some (false, 1), ze := some [Value.nilFunc] }
def ti33 : TInfo := { ty := some (false, 1), el := some (22, 1, 24, [Value.slice none 0 0]), slT := true, ze := some [Value.slice none 0 0], co := some (Sc.i IntKind.i64).sl }
def ti34 : TInfo := { ty := some (true, 3), fd := [(0, false, 1), (1, false, 1), (2, false, 1)], pl := some ([Value.slice none 0 0, Value.slice none 0 0, Value.slice none 0 0], [(0, 1), (1, 1), (2, 1)]), ze := some [Value.slice none 0 0, Value.slice none 0 0, Value.slice none 0 0] }
def ti35 : TInfo := { ty := some (true, 3), fd := [(0, false, 1), (1, false, 1), (2, false, 1)], pl := some ([Value.slice none 0 0, Value.slice none 0 0, Value.slice none 0 0], [(0, 1), (1, 1), (2, 1)]), ze := some [Value.slice none 0 0, Value.slice none 0 0, Value.slice none 0 0] }
def ti36 : TInfo := { ty := some (false, 1), el := some (29, 2, 16, [Value.int IntKind.i64 0, Value.int IntKind.i64 0]), slT := true, ze := some [Value.slice none 0 0], co := some ((Sc.i IntKind.i64).pr (Sc.i IntKind.i64)) }
def ti37 : TInfo := { ty := some (false, 1), ze := some [Value.int IntKind.i64 0], ik := some IntKind.i64 }
def ti39 : TInfo := { ty := some (false, 1), ze := some [Value.nilFunc] }
def ti41 : TInfo := { ty := some (false, 1), ze := some [Value.nilFunc] }
def ti42 : TInfo := { ty := some (false, 1), ze := some [Value.nilFunc] }
def ti43 : TInfo := { ty := some (false, 1), ze := some [Value.nilFunc] }
def ti44 : TInfo := { ty := some (false, 1), ze := some [Value.nilFunc] }
def ti45 : TInfo := { ty := some (false, 1), ze := some [Value.nilFunc] }
def ti46 : TInfo := { ty := some (false, 1), ze := some [Value.nilFunc] }
def ti48 : TInfo := { ty := some (false, 1), ze := some [Value.nilFunc] }
def ti49 : TInfo := { ty := some (false, 1), ze := some [Value.nilFunc] }
def ti50 : TInfo := { ty := some (false, 1), ze := some [Value.nilFunc] }
def ti52 : TInfo := { ty := some (false, 1), ze := some [Value.nilFunc] }
def ti53 : TInfo := { ty := some (false, 1), ze := some [Value.nilFunc] }
def ti54 : TInfo := { ty := some (false, 1), ze := some [Value.nilFunc] }
def ti55 : TInfo := { ty := some (false, 1), el := some (58, 5, 80, [Value.bool false, Value.int IntKind.u8 0, Value.slice none 0 0, Value.slice none 0 0, Value.slice none 0 0]), slT := true, ze := some [Value.slice none 0 0], co := some (Sc.b.pr ((Sc.i IntKind.u8).pr ((Sc.i IntKind.i64).sl.pr ((Sc.i IntKind.i64).sl.pr (Sc.i IntKind.i64).sl.sl)))) }
def ti56 : TInfo := { ty := some (false, 1), el := some (35, 3, 72, [Value.slice none 0 0, Value.slice none 0 0, Value.slice none 0 0]), slT := true, ze := some [Value.slice none 0 0], co := some ((Sc.i IntKind.i64).sl.pr ((Sc.i IntKind.i64).sl.pr (Sc.i IntKind.i64).sl.sl)) }
def ti57 : TInfo := { ty := some (true, 5), fd := [(0, false, 1), (1, false, 1), (2, true, 3)], pl := some ([Value.bool false, Value.int IntKind.u8 0, Value.slice none 0 0, Value.slice none 0 0, Value.slice none 0 0], [(0, 1), (1, 1), (2, 3)]), ze := some [Value.bool false, Value.int IntKind.u8 0, Value.slice none 0 0, Value.slice none 0 0, Value.slice none 0 0] }
def ti58 : TInfo := { ty := some (true, 5), fd := [(0, false, 1), (1, false, 1), (2, true, 3)], pl := some ([Value.bool false, Value.int IntKind.u8 0, Value.slice none 0 0, Value.slice none 0 0, Value.slice none 0 0], [(0, 1), (1, 1), (2, 3)]), ze := some [Value.bool false, Value.int IntKind.u8 0, Value.slice none 0 0, Value.slice none 0 0, Value.slice none 0 0] }
def ti59 : TInfo := { ty := some (false, 1), ze := some [Value.nilFunc] }
def ti60 : TInfo := { ty := some (false, 1), ze := some [Value.nilFunc] }
def ti61 : TInfo := { ty := some (false, 1), ze := some [Value.nilFunc] }
def ti62 : TInfo := { ty := some (true, 2), fd := [(0, false, 1), (1, false, 1)], pl := some ([Value.int IntKind.i64 0, Value.slice none 0 0], [(0, 1), (1, 1)]), ze := some [Value.int IntKind.i64 0, Value.slice none 0 0] }
def ti63 : TInfo := { ty := some (true, 2), fd := [(0, false, 1), (1, false, 1)], pl := some ([Value.int IntKind.i64 0, Value.slice none 0 0], [(0, 1), (1, 1)]), ze := some [Value.int IntKind.i64 0, Value.slice none 0 0] }
def ti64 : TInfo := { ty := some (false, 1), el := some (108, 1, 4, [Value.int IntKind.u32 0]), slT := true, ze := some [Value.slice none 0 0], co := some (Sc.i IntKind.u32) }
def ti65 : TInfo := { ty := some (false, 1), el := some (114, 2, 16, [Value.int IntKind.i64 0, Value.int IntKind.i64 0]), slT := true, ze := some [Value.slice none 0 0], co := some ((Sc.i IntKind.i64).pr (Sc.i IntKind.i64)) }
def ti66 : TInfo := { ty := some (false, 1), ze := some [Value.nilFunc] }
def ti67 : TInfo := { ty := some (false, 1), ze := some [Value.nilFunc] }
def ti68 : TInfo := { ty := some (false, 1), ze := some [Value.nilFunc] }
def ti69 : TInfo := { ty := some (false, 1), ze := some [Value.nilFunc] }
def ti70 : TInfo := { ty := some (false, 1), el := some (4, 1, 1, [Value.bool false]), slT := true, ze := some [Value.slice none 0 0], co := some Sc.b }
def ti72 : TInfo := { ty := some (false, 1), ze := some [Value.nilFunc] }
def ti73 : TInfo := { ty := some (false, 1), ze := some [Value.nilFunc] }
def ti74 : TInfo := { ty := some (true, 3), fd := [(0, false, 1), (1, false, 1), (2, false, 1)], pl := some ([Value.int IntKind.i64 0, Value.int IntKind.i64 0, Value.slice none 0 0], [(0, 1), (1, 1), (2, 1)]), ze := some [Value.int IntKind.i64 0, Value.int IntKind.i64 0, Value.slice none 0 0] }
def ti75 : TInfo := { ty := some (true, 3), fd := [(0, false, 1), (1, false, 1), (2, false, 1)], pl := some ([Value.int IntKind.i64 0, Value.int IntKind.i64 0, Value.slice none 0 0], [(0, 1), (1, 1), (2, 1)]), ze := some [Value.int IntKind.i64 0, Value.int IntKind.i64 0, Value.slice none 0 0] }
def ti76 : TInfo := { ty := some (false, 1), ze := some [Value.nilFunc] }
def ti77 : TInfo := { ty := some (false, 1), ze := some [Value.pointer none] }
def ti78 : TInfo := { ty := some (false, 1), ze := some [Value.map none], mp := some (TypeDesc.tuple { toList := [] }, Value.int IntKind.i64 0), kv := some ((Sc.i IntKind.i64).pr (Sc.i IntKind.i64), Sc.i IntKind.i64) }
def ti79 : TInfo := { ty := some (true, 5), fd := [(0, true, 3), (3, false, 1), (4, false, 1)], pl := some ([Value.slice none 0 0, Value.slice none 0 0, Value.slice none 0 0, Value.slice none 0 0, Value.map none], [(0, 3), (3, 1), (4, 1)]), ze := some [Value.slice none 0 0, Value.slice none 0 0, Value.slice none 0 0, Value.slice none 0 0, Value.map none] }
def ti80 : TInfo := { ty := some (true, 5), fd := [(0, true, 3), (3, false, 1), (4, false, 1)], pl := some ([Value.slice none 0 0, Value.slice none 0 0, Value.slice none 0 0, Value.slice none 0 0, Value.map none], [(0, 3), (3, 1), (4, 1)]), ze := some [Value.slice none 0 0, Value.slice none 0 0, Value.slice none 0 0, Value.slice none 0 0, Value.map none] }
def ti81 : TInfo := { ty := some (false, 1), ze := some [Value.nilFunc] }
def ti83 : TInfo := { ty := some (false, 1), ze := some [Value.nilFunc] }
def ti84 : TInfo := { ty := some (false, 1), ze := some [Value.nilFunc] }
def ti85 : TInfo := { ty := some (false, 1), ze := some [Value.nilFunc] }
def ti86 : TInfo := { ty := some (false, 1), ze := some [Value.nilFunc] }
def ti87 : TInfo := { ty := some (false, 1), ze := some [Value.nilFunc] }
def ti88 : TInfo := { ty := some (false, 1), ze := some [Value.nilFunc] }
def ti89 : TInfo := { ty := some (false, 1), ze := some [Value.nilFunc] }
def ti91 : TInfo := { ty := some (false, 1), ze := some [Value.nilFunc] }
def ti92 : TInfo := { ty := some (false, 1), ze := some [Value.nilFunc] }
def ti93 : TInfo := { ty := some (false, 1), ze := some [Value.nilFunc] }
def ti94 : TInfo := { ty := some (false, 1), ze := some [Value.nilFunc] }
def ti95 : TInfo := { ty := some (false, 1), ze := some [Value.nilFunc] }
def ti96 : TInfo := { ty := some (false, 1), ze := some [Value.nilFunc] }
def ti97 : TInfo := { ty := some (false, 1), ze := some [Value.nilFunc] }
def ti98 : TInfo := { ty := some (false, 1), ze := some [Value.nilFunc] }
def ti100 : TInfo := { ty := some (false, 1), ze := some [Value.nilFunc] }
def ti102 : TInfo := { ty := some (false, 1), ze := some [Value.nilFunc] }
def ti103 : TInfo := { ty := some (false, 1), ze := some [Value.nilFunc] }
def ti104 : TInfo := { ty := some (false, 1), ze := some [Value.nilFunc] }
def ti105 : TInfo := { ty := some (false, 1), ze := some [Value.nilFunc] }
def ti106 : TInfo := { ty := some (false, 1), ze := some [Value.nilFunc] }
def ti107 : TInfo := { ty := some (false, 1), ze := some [Value.nilFunc] }
def ti108 : TInfo := { ty := some (false, 1), ze := some [Value.int IntKind.u32 0], ik := some IntKind.u32 }
def ti109 : TInfo := { ty := some (false, 1), ze := some [Value.nilFunc] }
def ti110 : TInfo := { ty := some (false, 1), ze := some [Value.nilFunc] }
def ti112 : TInfo := { ty := some (false, 1), ze := some [Value.nilFunc] }
def ti113 : TInfo := { ty := some (true, 2), fd := [(0, false, 1), (1, false, 1)], pl := some ([Value.int IntKind.i64 0, Value.int IntKind.i64 0], [(0, 1), (1, 1)]), ze := some [Value.int IntKind.i64 0, Value.int IntKind.i64 0], eq := some ((Sc.i IntKind.i64).pr (Sc.i IntKind.i64)) }
def ti114 : TInfo := { ty := some (true, 2), fd := [(0, false, 1), (1, false, 1)], pl := some ([Value.int IntKind.i64 0, Value.int IntKind.i64 0], [(0, 1), (1, 1)]), ze := some [Value.int IntKind.i64 0, Value.int IntKind.i64 0], eq := some ((Sc.i IntKind.i64).pr (Sc.i IntKind.i64)) }
def ti116 : TInfo := { ty := some (false, 1), ze := some [Value.nilFunc] }
def ti117 : TInfo := { ty := some (false, 1), ze := some [Value.nilFunc] }
def ti118 : TInfo := { ty := some (false, 1), ze := some [Value.nilFunc] }
def ti119 : TInfo := { ty := some (false, 1), ze := some [Value.nilFunc] }
def ti120 : TInfo := { ty := some (false, 1), ze := some [Value.nilFunc] }
def ti121 : TInfo := { ty := some (false, 1), ze := some [Value.map none], mp := some (TypeDesc.int IntKind.i64, Value.int IntKind.i64 0), kv := some (Sc.i IntKind.i64, Sc.i IntKind.i64) }
def ti122 : TInfo := { ty := some (false, 1), ze := some [Value.nilFunc] }
def ti123 : TInfo := { ty := some (false, 1), ze := some [Value.nilFunc] }
def ti125 : TInfo := { ty := some (false, 1), ze := some [Value.nilFunc] }
def ti126 : TInfo := { ty := some (false, 1), ze := some [Value.nilFunc] }
def ti127 : TInfo := { ty := some (false, 1), ze := some [Value.nilFunc] }
def ti128 : TInfo := { ty := some (false, 1), ze := some [Value.nilFunc] }
def ti130 : TInfo := { ty := some (false, 1), ze := some [Value.nilFunc] }
def ti131 : TInfo := { ty := some (false, 1), ze := some [Value.nilFunc] }
def ti132 : TInfo := { ty := some (false, 1), ze := some [Value.nilFunc] }
def ti133 : TInfo := { ty := some (false, 1), ze := some [Value.nilFunc] }
def ti134 : TInfo := { ty := some (false, 1), ze := some [Value.nilFunc] }
def ti135 : TInfo := { ty := some (false, 1), ze := some [Value.nilFunc] }
def ti136 : TInfo := { ty := some (false, 1), ze := some [Value.nilFunc] }
def ti137 : TInfo := { ty := some (true, 8), ar := some (8, 3, 1), pl := some ([Value.int IntKind.i64 0, Value.int IntKind.i64 0, Value.int IntKind.i64 0, Value.int IntKind.i64 0, Value.int IntKind.i64 0, Value.int IntKind.i64 0, Value.int IntKind.i64 0, Value.int IntKind.i64 0], [(0, 1), (1, 1), (2, 1), (3, 1), (4, 1), (5, 1), (6, 1), (7, 1)]), ze := some [Value.int IntKind.i64 0, Value.int IntKind.i64 0, Value.int IntKind.i64 0, Value.int IntKind.i64 0, Value.int IntKind.i64 0, Value.int IntKind.i64 0, Value.int IntKind.i64 0, Value.int IntKind.i64 0], co := some (Sc.i IntKind.i64) }
def ti138 : TInfo := { ty := some (false, 1), ze := some [Value.nilFunc] }
def ti139 : TInfo := { ty := some (false, 1), ze := some [Value.pointer none] }
def ti140 : TInfo := { ty := some (true, 3), fd := [(0, false, 1), (1, false, 1), (2, false, 1)], pl := some ([Value.slice none 0 0, Value.map none, Value.map none], [(0, 1), (1, 1), (2, 1)]), ze := some [Value.slice none 0 0, Value.map none, Value.map none] }
def ti141 : TInfo := { ty := some (true, 3), fd := [(0, false, 1), (1, false, 1), (2, false, 1)], pl := some ([Value.slice none 0 0, Value.map none, Value.map none], [(0, 1), (1, 1), (2, 1)]), ze := some [Value.slice none 0 0, Value.map none, Value.map none] }
def ti142 : TInfo := { ty := some (false, 1), ze := some [Value.int IntKind.u64 0], ik := some IntKind.u64 }
def ti143 : TInfo := { ty := some (false, 1), ze := some [Value.nilFunc] }
def ti144 : TInfo := { ty := some (false, 1), ze := some [Value.nilFunc] }
def ti147 : TInfo := { ty := some (true, 0), ar := some (0, 16, 1), pl := some ([], []), ze := some [] }
def ti148 : TInfo := { ty := some (true, 0), fd := [(0, true, 0)], pl := some ([], [(0, 0)]), ze := some [] }
def ti149 : TInfo := { ty := some (true, 0), fd := [(0, true, 0)], pl := some ([], [(0, 0)]), ze := some [] }
def ti150 : TInfo := { ty := some (false, 1), ze := some [Value.nilFunc] }
def ti151 : TInfo := { ty := some (false, 1), ze := some [Value.int IntKind.u8 0], ik := some IntKind.u8 }
def ti152 : TInfo := { ty := some (false, 1), ze := some [Value.int IntKind.u8 0], ik := some IntKind.u8 }
def ti153 : TInfo := { ty := some (false, 1), ze := some [Value.nilFunc] }
def ti154 : TInfo := { ty := some (false, 1), ze := some [Value.pointer none] }
def ti155 : TInfo := { ty := some (false, 1), ze := some [Value.int IntKind.i32 0], ik := some IntKind.i32 }
def ti156 : TInfo := { ty := some (false, 1), ze := some [Value.int IntKind.i32 0], ik := some IntKind.i32 }
def ti157 : TInfo := { ty := some (true, 11), fd := [(0, false, 1), (1, false, 1), (2, false, 1), (3, false, 1), (4, false, 1), (5, false, 1), (6, false, 1), (7, false, 1), (8, false, 1), (9, false, 1), (10, false, 1)], pl := some ([Value.int IntKind.u64 0, Value.int IntKind.u64 0, Value.int IntKind.u32 0, Value.int IntKind.u8 0, Value.int IntKind.u8 0, Value.int IntKind.u8 0, Value.int IntKind.u8 0, Value.nilFunc, Value.pointer none, Value.int IntKind.i32 0, Value.int IntKind.i32 0], [(0, 1), (1, 1), (2, 1), (3, 1), (4, 1), (5, 1), (6, 1), (7, 1), (8, 1), (9, 1), (10, 1)]), ze := some [Value.int IntKind.u64 0, Value.int IntKind.u64 0, Value.int IntKind.u32 0, Value.int IntKind.u8 0, Value.int IntKind.u8 0, Value.int IntKind.u8 0, Value.int IntKind.u8 0, Value.nilFunc, Value.pointer none, Value.int IntKind.i32 0, Value.int IntKind.i32 0] }
def ti158 : TInfo := { ty := some (true, 11), fd := [(0, false, 1), (1, false, 1), (2, false, 1), (3, false, 1), (4, false, 1), (5, false, 1), (6, false, 1), (7, false, 1), (8, false, 1), (9, false, 1), (10, false, 1)], pl := some ([Value.int IntKind.u64 0, Value.int IntKind.u64 0, Value.int IntKind.u32 0, Value.int IntKind.u8 0, Value.int IntKind.u8 0, Value.int IntKind.u8 0, Value.int IntKind.u8 0, Value.nilFunc, Value.pointer none, Value.int IntKind.i32 0, Value.int IntKind.i32 0], [(0, 1), (1, 1), (2, 1), (3, 1), (4, 1), (5, 1), (6, 1), (7, 1), (8, 1), (9, 1), (10, 1)]), ze := some [Value.int IntKind.u64 0, Value.int IntKind.u64 0, Value.int IntKind.u32 0, Value.int IntKind.u8 0, Value.int IntKind.u8 0, Value.int IntKind.u8 0, Value.int IntKind.u8 0, Value.nilFunc, Value.pointer none, Value.int IntKind.i32 0, Value.int IntKind.i32 0] }
def ti159 : TInfo := { ty := some (false, 1), ze := some [Value.pointer none] }
def tiL : List (TypeId × TInfo) := [(1, ti1), (2, ti2), (3, ti3), (4, ti4), (5, ti5), (6, ti6), (7, ti7), (8, ti8), (12, ti12), (15, ti15), (16, ti16), (17, ti17), (18, ti18), (19, ti19), (21, ti21), (22, ti22), (23, ti23), (24, ti24), (25, ti25), (26, ti26), (27, ti27), (28, ti28), (29, ti29), (30, ti30), (31, ti31), (32, ti32), (33, ti33), (34, ti34), (35, ti35), (36, ti36), (37, ti37), (39, ti39), (41, ti41), (42, ti42), (43, ti43), (44, ti44), (45, ti45), (46, ti46), (48, ti48), (49, ti49), (50, ti50), (52, ti52), (53, ti53), (54, ti54), (55, ti55), (56, ti56), (57, ti57), (58, ti58), (59, ti59), (60, ti60), (61, ti61), (62, ti62), (63, ti63), (64, ti64), (65, ti65), (66, ti66), (67, ti67), (68, ti68), (69, ti69), (70, ti70), (72, ti72), (73, ti73), (74, ti74), (75, ti75), (76, ti76), (77, ti77), (78, ti78), (79, ti79), (80, ti80), (81, ti81), (83, ti83), (84, ti84), (85, ti85), (86, ti86), (87, ti87), (88, ti88), (89, ti89), (91, ti91), (92, ti92), (93, ti93), (94, ti94), (95, ti95), (96, ti96), (97, ti97), (98, ti98), (100, ti100), (102, ti102), (103, ti103), (104, ti104), (105, ti105), (106, ti106), (107, ti107), (108, ti108), (109, ti109), (110, ti110), (112, ti112), (113, ti113), (114, ti114), (116, ti116), (117, ti117), (118, ti118), (119, ti119), (120, ti120), (121, ti121), (122, ti122), (123, ti123), (125, ti125), (126, ti126), (127, ti127), (128, ti128), (130, ti130), (131, ti131), (132, ti132), (133, ti133), (134, ti134), (135, ti135), (136, ti136), (137, ti137), (138, ti138), (139, ti139), (140, ti140), (141, ti141), (142, ti142), (143, ti143), (144, ti144), (147, ti147), (148, ti148), (149, ti149), (150, ti150), (151, ti151), (152, ti152), (153, ti153), (154, ti154), (155, ti155), (156, ti156), (157, ti157), (158, ti158), (159, ti159)]
theorem tiok1 : TGood Try.prog 1 ti1 := ⟨of_kr (by kernel_rfl), of_kr (by kernel_rfl), of_kb (by kernel_rfl), of_kbo (by kernel_rfl), of_kr (by kernel_rfl), of_kfd (by kernel_rfl), of_kpl (by kernel_rfl), of_kr (by kernel_rfl), of_kr (by kernel_rfl), of_kik (by kernel_rfl), of_keq (by kernel_rfl)⟩
theorem tiok2 : TGood Try.prog 2 ti2 := ⟨of_kr (by kernel_rfl), of_kr (by kernel_rfl), of_kb (by kernel_rfl), of_kbo (by kernel_rfl), of_kr (by kernel_rfl), of_kfd (by kernel_rfl), of_kpl (by kernel_rfl), of_kr (by kernel_rfl), of_kr (by kernel_rfl), of_kik (by kernel_rfl), of_keq (by kernel_rfl)⟩
theorem tiok3 : TGood Try.prog 3 ti3 := ⟨of_kr (by kernel_rfl), of_kr (by kernel_rfl), of_kb (by kernel_rfl), of_kbo (by kernel_rfl), of_kr (by kernel_rfl), of_kfd (by kernel_rfl), of_kpl (by kernel_rfl), of_kr (by kernel_rfl), of_kr (by kernel_rfl), of_kik (by kernel_rfl), of_keq (by kernel_rfl)⟩
theorem tiok4 : TGood Try.prog 4 ti4 := ⟨of_kr (by kernel_rfl), of_kr (by kernel_rfl), of_kb (by kernel_rfl), of_kbo (by kernel_rfl), of_kr (by kernel_rfl), of_kfd (by kernel_rfl), of_kpl (by kernel_rfl), of_kr (by kernel_rfl), of_kr (by kernel_rfl), of_kik (by kernel_rfl), of_keq (by kernel_rfl)⟩
theorem tiok5 : TGood Try.prog 5 ti5 := ⟨of_kr (by kernel_rfl), of_kr (by kernel_rfl), of_kb (by kernel_rfl), of_kbo (by kernel_rfl), of_kr (by kernel_rfl), of_kfd (by kernel_rfl), of_kpl (by kernel_rfl), of_kr (by kernel_rfl), of_kr (by kernel_rfl), of_kik (by kernel_rfl), of_keq (by kernel_rfl)⟩
theorem tiok6 : TGood Try.prog 6 ti6 := ⟨of_kr (by kernel_rfl), of_kr (by kernel_rfl), of_kb (by kernel_rfl), of_kbo (by kernel_rfl), of_kr (by kernel_rfl), of_kfd (by kernel_rfl), of_kpl (by kernel_rfl), of_kr (by kernel_rfl), of_kr (by kernel_rfl), of_kik (by kernel_rfl), of_keq (by kernel_rfl)⟩
theorem tiok7 : TGood Try.prog 7 ti7 := ⟨of_kr (by kernel_rfl), of_kr (by kernel_rfl), of_kb (by kernel_rfl), of_kbo (by kernel_rfl), of_kr (by kernel_rfl), of_kfd (by kernel_rfl), of_kpl (by kernel_rfl), of_kr (by kernel_rfl), of_kr (by kernel_rfl), of_kik (by kernel_rfl), of_keq (by kernel_rfl)⟩
theorem tiok8 : TGood Try.prog 8 ti8 := ⟨of_kr (by kernel_rfl), of_kr (by kernel_rfl), of_kb (by kernel_rfl), of_kbo (by kernel_rfl), of_kr (by kernel_rfl), of_kfd (by kernel_rfl), of_kpl (by kernel_rfl), of_kr (by kernel_rfl), of_kr (by kernel_rfl), of_kik (by kernel_rfl), of_keq (by kernel_rfl)⟩
theorem tiok12 : TGood Try.prog 12 ti12 := ⟨of_kr (by kernel_rfl), of_kr (by kernel_rfl), of_kb (by kernel_rfl), of_kbo (by kernel_rfl), of_kr (by kernel_rfl), of_kfd (by kernel_rfl), of_kpl (by kernel_rfl), of_kr (by kernel_rfl), of_kr (by kernel_rfl), of_kik (by kernel_rfl), of_keq (by kernel_rfl)⟩
theorem tiok15 : TGood Try.prog 15 ti15 := ⟨of_kr (by kernel_rfl), of_kr (by kernel_rfl), of_kb (by kernel_rfl), of_kbo (by kernel_rfl), of_kr (by kernel_rfl), of_kfd (by kernel_rfl), of_kpl (by kernel_rfl), of_kr (by kernel_rfl), of_kr (by kernel_rfl), of_kik (by kernel_rfl), of_keq (by kernel_rfl)⟩
theorem tiok16 : TGood Try.prog 16 ti16 := ⟨of_kr (by kernel_rfl), of_kr (by kernel_rfl), of_kb (by kernel_rfl), of_kbo (by kernel_rfl), of_kr (by kernel_rfl), of_kfd (by kernel_rfl), of_kpl (by kernel_rfl), of_kr (by kernel_rfl), of_kr (by kernel_rfl), of_kik (by kernel_rfl), of_keq (by kernel_rfl)⟩
theorem tiok17 : TGood Try.prog 17 ti17 := ⟨of_kr (by kernel_rfl), of_kr (by kernel_rfl), of_kb (by kernel_rfl), of_kbo (by kernel_rfl), of_kr (by kernel_rfl), of_kfd (by kernel_rfl), of_kpl (by kernel_rfl), of_kr (by kernel_rfl), of_kr (by kernel_rfl), of_kik (by kernel_rfl), of_keq (by kernel_rfl)⟩
theorem tiok18 : TGood Try.prog 18 ti18 := ⟨of_kr (by kernel_rfl), of_kr (by kernel_rfl), of_kb (by kernel_rfl), of_kbo (by kernel_rfl), of_kr (by kernel_rfl), of_kfd (by kernel_rfl), of_kpl (by kernel_rfl), of_kr (by kernel_rfl), of_kr (by kernel_rfl), of_kik (by kernel_rfl), of_keq (by kernel_rfl)⟩
theorem tiok19 : TGood Try.prog 19 ti19 := ⟨of_kr (by kernel_rfl), of_kr (by kernel_rfl), of_kb (by kernel_rfl), of_kbo (by kernel_rfl), of_kr (by kernel_rfl), of_kfd (by kernel_rfl), of_kpl (by kernel_rfl), of_kr (by kernel_rfl), of_kr (by kernel_rfl), of_kik (by kernel_rfl), of_keq (by kernel_rfl)⟩
theorem tiok21 : TGood Try.prog 21 ti21 := ⟨of_kr (by kernel_rfl), of_kr (by kernel_rfl), of_kb (by kernel_rfl), of_kbo (by kernel_rfl), of_kr (by kernel_rfl), of_kfd (by kernel_rfl), of_kpl (by kernel_rfl), of_kr (by kernel_rfl), of_kr (by kernel_rfl), of_kik (by kernel_rfl), of_keq (by kernel_rfl)⟩
theorem tiok22 : TGood Try.prog 22 ti22 := ⟨of_kr (by kernel_rfl), of_kr (by kernel_rfl), of_kb (by kernel_rfl), of_kbo (by kernel_rfl), of_kr (by kernel_rfl), of_kfd (by kernel_rfl), of_kpl (by kernel_rfl), of_kr (by kernel_rfl), of_kr (by kernel_rfl), of_kik (by kernel_rfl), of_keq (by kernel_rfl)⟩
theorem tiok23 : TGood Try.prog 23 ti23 := ⟨of_kr (by kernel_rfl), of_kr (by kernel_rfl), of_kb (by kernel_rfl), of_kbo (by kernel_rfl), of_kr (by kernel_rfl), of_kfd (by kernel_rfl), of_kpl (by kernel_rfl), of_kr (by kernel_rfl), of_kr (by kernel_rfl), of_kik (by kernel_rfl), of_keq (by kernel_rfl)⟩
theorem tiok24 : TGood Try.prog 24 ti24 := ⟨of_kr (by kernel_rfl), of_kr (by kernel_rfl), of_kb (by kernel_rfl), of_kbo (by kernel_rfl), of_kr (by kernel_rfl), of_kfd (by kernel_rfl), of_kpl (by kernel_rfl), of_kr (by kernel_rfl), of_kr (by kernel_rfl), of_kik (by kernel_rfl), of_keq (by kernel_rfl)⟩
theorem tiok25 : TGood Try.prog 25 ti25 := ⟨of_kr (by kernel_rfl), of_kr (by kernel_rfl), of_kb (by kernel_rfl), of_kbo (by kernel_rfl), of_kr (by kernel_rfl), of_kfd (by kernel_rfl), of_kpl (by kernel_rfl), of_kr (by kernel_rfl), of_kr (by kernel_rfl), of_kik (by kernel_rfl), of_keq (by kernel_rfl)⟩
theorem tiok26 : TGood Try.prog 26 ti26 := ⟨of_kr (by kernel_rfl), of_kr (by kernel_rfl), of_kb (by kernel_rfl), of_kbo (by kernel_rfl), of_kr (by kernel_rfl), of_kfd (by kernel_rfl), of_kpl (by kernel_rfl), of_kr (by kernel_rfl), of_kr (by kernel_rfl), of_kik (by kernel_rfl), of_keq (by kernel_rfl)⟩
theorem tiok27 : TGood Try.prog 27 ti27 := ⟨of_kr (by kernel_rfl), of_kr (by kernel_rfl), of_kb (by kernel_rfl), of_kbo (by kernel_rfl), of_kr (by kernel_rfl), of_kfd (by kernel_rfl), of_kpl (by kernel_rfl), of_kr (by kernel_rfl), of_kr (by kernel_rfl), of_kik (by kernel_rfl), of_keq (by kernel_rfl)⟩
theorem tiok28 : TGood Try.prog 28 ti28 := ⟨of_kr (by kernel_rfl), of_kr (by kernel_rfl), of_kb (by kernel_rfl), of_kbo (by kernel_rfl), of_kr (by kernel_rfl), of_kfd (by kernel_rfl), of_kpl (by kernel_rfl), of_kr (by kernel_rfl), of_kr (by kernel_rfl), of_kik (by kernel_rfl), of_keq (by kernel_rfl)⟩
theorem tiok29 : TGood Try.prog 29 ti29 := ⟨of_kr (by kernel_rfl), of_kr (by kernel_rfl), of_kb (by kernel_rfl), of_kbo (by kernel_rfl), of_kr (by kernel_rfl), of_kfd (by kernel_rfl), of_kpl (by kernel_rfl), of_kr (by kernel_rfl), of_kr (by kernel_rfl), of_kik (by kernel_rfl), of_keq (by kernel_rfl)⟩
theorem tiok30 : TGood Try.prog 30 ti30 := ⟨of_kr (by kernel_rfl), of_kr (by kernel_rfl), of_kb (by kernel_rfl), of_kbo (by kernel_rfl), of_kr (by kernel_rfl), of_kfd (by kernel_rfl), of_kpl (by kernel_rfl), of_kr (by kernel_rfl), of_kr (by kernel_rfl), of_kik (by kernel_rfl), of_keq (by kernel_rfl)⟩
theorem tiok31 : TGood Try.prog 31 ti31 := ⟨of_kr (by kernel_rfl), of_kr (by kernel_rfl), of_kb (by kernel_rfl), of_kbo (by kernel_rfl), of_kr (by kernel_rfl), of_kfd (by kernel_rfl), of_kpl (by kernel_rfl), of_kr (by kernel_rfl), of_kr (by kernel_rfl), of_kik (by kernel_rfl), of_keq (by kernel_rfl)⟩
theorem tiok32 : TGood Try.prog 32 ti32 := ⟨of_kr (by kernel_rfl), of_kr (by kernel_rfl), of_kb (by kernel_rfl), of_kbo (by kernel_rfl), of_kr (by kernel_rfl), of_kfd (by kernel_rfl), of_kpl (by kernel_rfl), of_kr (by kernel_rfl), of_kr (by kernel_rfl), of_kik (by kernel_rfl), of_keq (by kernel_rfl)⟩
theorem tiok33 : TGood Try.prog 33 ti33 := ⟨of_kr (by kernel_rfl), of_kr (by kernel_rfl), of_kb (by kernel_rfl), of_kbo (by kernel_rfl), of_kr (by kernel_rfl), of_kfd (by kernel_rfl), of_kpl (by kernel_rfl), of_kr (by kernel_rfl), of_kr (by kernel_rfl), of_kik (by kernel_rfl), of_keq (by kernel_rfl)⟩
theorem tiok34 : TGood Try.prog 34 ti34 := ⟨of_kr (by kernel_rfl), of_kr (by kernel_rfl), of_kb (by kernel_rfl), of_kbo (by kernel_rfl), of_kr (by kernel_rfl), of_kfd (by kernel_rfl), of_kpl (by kernel_rfl), of_kr (by kernel_rfl), of_kr (by kernel_rfl), of_kik (by kernel_rfl), of_keq (by kernel_rfl)⟩
theorem tiok35 : TGood Try.prog 35 ti35 := ⟨of_kr (by kernel_rfl), of_kr (by kernel_rfl), of_kb (by kernel_rfl), of_kbo (by kernel_rfl), of_kr (by kernel_rfl), of_kfd (by kernel_rfl), of_kpl (by kernel_rfl), of_kr (by kernel_rfl), of_kr (by kernel_rfl), of_kik (by kernel_rfl), of_keq (by kernel_rfl)⟩
theorem tiok36 : TGood Try.prog 36 ti36 := ⟨of_kr (by kernel_rfl), of_kr (by kernel_rfl), of_kb (by kernel_rfl), of_kbo (by kernel_rfl), of_kr (by kernel_rfl), of_kfd (by kernel_rfl), of_kpl (by kernel_rfl), of_kr (by kernel_rfl), of_kr (by kernel_rfl), of_kik (by kernel_rfl), of_keq (by kernel_rfl)⟩
theorem tiok37 : TGood Try.prog 37 ti37 := ⟨of_kr (by kernel_rfl), of_kr (by kernel_rfl), of_kb (by kernel_rfl), of_kbo (by kernel_rfl), of_kr (by kernel_rfl), of_kfd (by kernel_rfl), of_kpl (by kernel_rfl), of_kr (by kernel_rfl), of_kr (by kernel_rfl), of_kik (by kernel_rfl), of_keq (by kernel_rfl)⟩
theorem tiok39 : TGood Try.prog 39 ti39 := ⟨of_kr (by kernel_rfl), of_kr (by kernel_rfl), of_kb (by kernel_rfl), of_kbo (by kernel_rfl), of_kr (by kernel_rfl), of_kfd (by kernel_rfl), of_kpl (by kernel_rfl), of_kr (by kernel_rfl), of_kr (by kernel_rfl), of_kik (by kernel_rfl), of_keq (by kernel_rfl)⟩
theorem tiok41 : TGood Try.prog 41 ti41 := ⟨of_kr (by kernel_rfl), of_kr (by kernel_rfl), of_kb (by kernel_rfl), of_kbo (by kernel_rfl), of_kr (by kernel_rfl), of_kfd (by kernel_rfl), of_kpl (by kernel_rfl), of_kr (by kernel_rfl), of_kr (by kernel_rfl), of_kik (by kernel_rfl), of_keq (by kernel_rfl)⟩
theorem tiok42 : TGood Try.prog 42 ti42 := ⟨of_kr (by kernel_rfl), of_kr (by kernel_rfl), of_kb (by kernel_rfl), of_kbo (by kernel_rfl), of_kr (by kernel_rfl), of_kfd (by kernel_rfl), of_kpl (by kernel_rfl), of_kr (by kernel_rfl), of_kr (by kernel_rfl), of_kik (by kernel_rfl), of_keq (by kernel_rfl)⟩
theorem tiok43 : TGood Try.prog 43 ti43 := ⟨of_kr (by kernel_rfl), of_kr (by kernel_rfl), of_kb (by kernel_rfl), of_kbo (by kernel_rfl), of_kr (by kernel_rfl), of_kfd (by kernel_rfl), of_kpl (by kernel_rfl), of_kr (by kernel_rfl), of_kr (by kernel_rfl), of_kik (by kernel_rfl), of_keq (by kernel_rfl)⟩
theorem tiok44 : TGood Try.prog 44 ti44 := ⟨of_kr (by kernel_rfl), of_kr (by kernel_rfl), of_kb (by kernel_rfl), of_kbo (by kernel_rfl), of_kr (by kernel_rfl), of_kfd (by kernel_rfl), of_kpl (by kernel_rfl), of_kr (by kernel_rfl), of_kr (by kernel_rfl), of_kik (by kernel_rfl), of_keq (by kernel_rfl)⟩
theorem tiok45 : TGood Try.prog 45 ti45 := ⟨of_kr (by kernel_rfl), of_kr (by kernel_rfl), of_kb (by kernel_rfl), of_kbo (by kernel_rfl), of_kr (by kernel_rfl), of_kfd (by kernel_rfl), of_kpl (by kernel_rfl), of_kr (by kernel_rfl), of_kr (by kernel_rfl), of_kik (by kernel_rfl), of_keq (by kernel_rfl)⟩
theorem tiok46 : TGood Try.prog 46 ti46 := ⟨of_kr (by kernel_rfl), of_kr (by kernel_rfl), of_kb (by kernel_rfl), of_kbo (by kernel_rfl), of_kr (by kernel_rfl), of_kfd (by kernel_rfl), of_kpl (by kernel_rfl), of_kr (by kernel_rfl), of_kr (by kernel_rfl), of_kik (by kernel_rfl), of_keq (by kernel_rfl)⟩
theorem tiok48 : TGood Try.prog 48 ti48 := ⟨of_kr (by kernel_rfl), of_kr (by kernel_rfl), of_kb (by kernel_rfl), of_kbo (by kernel_rfl), of_kr (by kernel_rfl), of_kfd (by kernel_rfl), of_kpl (by kernel_rfl), of_kr (by kernel_rfl), of_kr (by kernel_rfl), of_kik (by kernel_rfl), of_keq (by kernel_rfl)⟩
theorem tiok49 : TGood Try.prog 49 ti49 := ⟨of_kr (by kernel_rfl), of_kr (by kernel_rfl), of_kb (by kernel_rfl), of_kbo (by kernel_rfl), of_kr (by kernel_rfl), of_kfd (by kernel_rfl), of_kpl (by kernel_rfl), of_kr (by kernel_rfl), of_kr (by kernel_rfl), of_kik (by kernel_rfl), of_keq (by kernel_rfl)⟩
theorem tiok50 : TGood Try.prog 50 ti50 := ⟨of_kr (by kernel_rfl), of_kr (by kernel_rfl), of_kb (by kernel_rfl), of_kbo (by kernel_rfl), of_kr (by kernel_rfl), of_kfd (by kernel_rfl), of_kpl (by kernel_rfl), of_kr (by kernel_rfl), of_kr (by kernel_rfl), of_kik (by kernel_rfl), of_keq (by kernel_rfl)⟩
theorem tiok52 : TGood Try.prog 52 ti52 := ⟨of_kr (by kernel_rfl), of_kr (by kernel_rfl), of_kb (by kernel_rfl), of_kbo (by kernel_rfl), of_kr (by kernel_rfl), of_kfd (by kernel_rfl), of_kpl (by kernel_rfl), of_kr (by kernel_rfl), of_kr (by kernel_rfl), of_kik (by kernel_rfl), of_keq (by kernel_rfl)⟩
theorem tiok53 : TGood Try.prog 53 ti53 := ⟨of_kr (by kernel_rfl), of_kr (by kernel_rfl), of_kb (by kernel_rfl), of_kbo (by kernel_rfl), of_kr (by kernel_rfl), of_kfd (by kernel_rfl), of_kpl (by kernel_rfl), of_kr (by kernel_rfl), of_kr (by kernel_rfl), of_kik (by kernel_rfl), of_keq (by kernel_rfl)⟩
theorem tiok54 : TGood Try.prog 54 ti54 := ⟨of_kr (by kernel_rfl), of_kr (by kernel_rfl), of_kb (by kernel_rfl), of_kbo (by kernel_rfl), of_kr (by kernel_rfl), of_kfd (by kernel_rfl), of_kpl (by kernel_rfl), of_kr (by kernel_rfl), of_kr (by kernel_rfl), of_kik (by kernel_rfl), of_keq (by kernel_rfl)⟩
theorem tiok55 : TGood Try.prog 55 ti55 := ⟨of_kr (by kernel_rfl), of_kr (by kernel_rfl), of_kb (by kernel_rfl), of_kbo (by kernel_rfl), of_kr (by kernel_rfl), of_kfd (by kernel_rfl), of_kpl (by kernel_rfl), of_kr (by kernel_rfl), of_kr (by kernel_rfl), of_kik (by kernel_rfl), of_keq (by kernel_rfl)⟩
theorem tiok56 : TGood Try.prog 56 ti56 := ⟨of_kr (by kernel_rfl), of_kr (by kernel_rfl), of_kb (by kernel_rfl), of_kbo (by kernel_rfl), of_kr (by kernel_rfl), of_kfd (by kernel_rfl), of_kpl (by kernel_rfl), of_kr (by kernel_rfl), of_kr (by kernel_rfl), of_kik (by kernel_rfl), of_keq (by kernel_rfl)⟩
theorem tiok57 : TGood Try.prog 57 ti57 := ⟨of_kr (by kernel_rfl), of_kr (by kernel_rfl), of_kb (by kernel_rfl), of_kbo (by kernel_rfl), of_kr (by kernel_rfl), of_kfd (by kernel_rfl), of_kpl (by kernel_rfl), of_kr (by kernel_rfl), of_kr (by kernel_rfl), of_kik (by kernel_rfl), of_keq (by kernel_rfl)⟩
theorem tiok58 : TGood Try.prog 58 ti58 := ⟨of_kr (by kernel_rfl), of_kr (by kernel_rfl), of_kb (by kernel_rfl), of_kbo (by kernel_rfl), of_kr (by kernel_rfl), of_kfd (by kernel_rfl), of_kpl (by kernel_rfl), of_kr (by kernel_rfl), of_kr (by kernel_rfl), of_kik (by kernel_rfl), of_keq (by kernel_rfl)⟩
theorem tiok59 : TGood Try.prog 59 ti59 := ⟨of_kr (by kernel_rfl), of_kr (by kernel_rfl), of_kb (by kernel_rfl), of_kbo (by kernel_rfl), of_kr (by kernel_rfl), of_kfd (by kernel_rfl), of_kpl (by kernel_rfl), of_kr (by kernel_rfl), of_kr (by kernel_rfl), of_kik (by kernel_rfl), of_keq (by kernel_rfl)⟩
theorem tiok60 : TGood Try.prog 60 ti60 := ⟨of_kr (by kernel_rfl), of_kr (by kernel_rfl), of_kb (by kernel_rfl), of_kbo (by kernel_rfl), of_kr (by kernel_rfl), of_kfd (by kernel_rfl), of_kpl (by kernel_rfl), of_kr (by kernel_rfl), of_kr (by kernel_rfl), of_kik (by kernel_rfl), of_keq (by kernel_rfl)⟩
theorem tiok61 : TGood Try.prog 61 ti61 := ⟨of_kr (by kernel_rfl), of_kr (by kernel_rfl), of_kb (by kernel_rfl), of_kbo (by kernel_rfl), of_kr (by kernel_rfl), of_kfd (by kernel_rfl), of_kpl (by kernel_rfl), of_kr (by kernel_rfl), of_kr (by kernel_rfl), of_kik (by kernel_rfl), of_keq (by kernel_rfl)⟩
theorem tiok62 : TGood Try.prog 62 ti62 := ⟨of_kr (by kernel_rfl), of_kr (by kernel_rfl), of_kb (by kernel_rfl), of_kbo (by kernel_rfl), of_kr (by kernel_rfl), of_kfd (by kernel_rfl), of_kpl (by kernel_rfl), of_kr (by kernel_rfl), of_kr (by kernel_rfl), of_kik (by kernel_rfl), of_keq (by kernel_rfl)⟩
theorem tiok63 : TGood Try.prog 63 ti63 := ⟨of_kr (by kernel_rfl), of_kr (by kernel_rfl), of_kb (by kernel_rfl), of_kbo (by kernel_rfl), of_kr (by kernel_rfl), of_kfd (by kernel_rfl), of_kpl (by kernel_rfl), of_kr (by kernel_rfl), of_kr (by kernel_rfl), of_kik (by kernel_rfl), of_keq (by kernel_rfl)⟩
theorem tiok64 : TGood Try.prog 64 ti64 := ⟨of_kr (by kernel_rfl), of_kr (by kernel_rfl), of_kb (by kernel_rfl), of_kbo (by kernel_rfl), of_kr (by kernel_rfl), of_kfd (by kernel_rfl), of_kpl (by kernel_rfl), of_kr (by kernel_rfl), of_kr (by kernel_rfl), of_kik (by kernel_rfl), of_keq (by kernel_rfl)⟩
theorem tiok65 : TGood Try.prog 65 ti65 := ⟨of_kr (by kernel_rfl), of_kr (by kernel_rfl), of_kb (by kernel_rfl), of_kbo (by kernel_rfl), of_kr (by kernel_rfl), of_kfd (by kernel_rfl), of_kpl (by kernel_rfl), of_kr (by kernel_rfl), of_kr (by kernel_rfl), of_kik (by kernel_rfl), of_keq (by kernel_rfl)⟩
theorem tiok66 : TGood Try.prog 66 ti66 := ⟨of_kr (by kernel_rfl), of_kr (by kernel_rfl), of_kb (by kernel_rfl), of_kbo (by kernel_rfl), of_kr (by kernel_rfl), of_kfd (by kernel_rfl), of_kpl (by kernel_rfl), of_kr (by kernel_rfl), of_kr (by kernel_rfl), of_kik (by kernel_rfl), of_keq (by kernel_rfl)⟩
theorem tiok67 : TGood Try.prog 67 ti67 := ⟨of_kr (by kernel_rfl), of_kr (by kernel_rfl), of_kb (by kernel_rfl), of_kbo (by kernel_rfl), of_kr (by kernel_rfl), of_kfd (by kernel_rfl), of_kpl (by kernel_rfl), of_kr (by kernel_rfl), of_kr (by kernel_rfl), of_kik (by kernel_rfl), of_keq (by kernel_rfl)⟩
theorem tiok68 : TGood Try.prog 68 ti68 := ⟨of_kr (by kernel_rfl), of_kr (by kernel_rfl), of_kb (by kernel_rfl), of_kbo (by kernel_rfl), of_kr (by kernel_rfl), of_kfd (by kernel_rfl), of_kpl (by kernel_rfl), of_kr (by kernel_rfl), of_kr (by kernel_rfl), of_kik (by kernel_rfl), of_keq (by kernel_rfl)⟩
theorem tiok69 : TGood Try.prog 69 ti69 := ⟨of_kr (by kernel_rfl), of_kr (by kernel_rfl), of_kb (by kernel_rfl), of_kbo (by kernel_rfl), of_kr (by kernel_rfl), of_kfd (by kernel_rfl), of_kpl (by kernel_rfl), of_kr (by kernel_rfl), of_kr (by kernel_rfl), of_kik (by kernel_rfl), of_keq (by kernel_rfl)⟩
theorem tiok70 : TGood Try.prog 70 ti70 := ⟨of_kr (by kernel_rfl), of_kr (by kernel_rfl), of_kb (by kernel_rfl), of_kbo (by kernel_rfl), of_kr (by kernel_rfl), of_kfd (by kernel_rfl), of_kpl (by kernel_rfl), of_kr (by kernel_rfl), of_kr (by kernel_rfl), of_kik (by kernel_rfl), of_keq (by kernel_rfl)⟩
theorem tiok72 : TGood Try.prog 72 ti72 := ⟨of_kr (by kernel_rfl), of_kr (by kernel_rfl), of_kb (by kernel_rfl), of_kbo (by kernel_rfl), of_kr (by kernel_rfl), of_kfd (by kernel_rfl), of_kpl (by kernel_rfl), of_kr (by kernel_rfl), of_kr (by kernel_rfl), of_kik (by kernel_rfl), of_keq (by kernel_rfl)⟩
theorem tiok73 : TGood Try.prog 73 ti73 := ⟨of_kr (by kernel_rfl), of_kr (by kernel_rfl), of_kb (by kernel_rfl), of_kbo (by kernel_rfl), of_kr (by kernel_rfl), of_kfd (by kernel_rfl), of_kpl (by kernel_rfl), of_kr (by kernel_rfl), of_kr (by kernel_rfl), of_kik (by kernel_rfl), of_keq (by kernel_rfl)⟩
theorem tiok74 : TGood Try.prog 74 ti74 := ⟨of_kr (by kernel_rfl), of_kr (by kernel_rfl), of_kb (by kernel_rfl), of_kbo (by kernel_rfl), of_kr (by kernel_rfl), of_kfd (by kernel_rfl), of_kpl (by kernel_rfl), of_kr (by kernel_rfl), of_kr (by kernel_rfl), of_kik (by kernel_rfl), of_keq (by kernel_rfl)⟩
theorem tiok75 : TGood Try.prog 75 ti75 := ⟨of_kr (by kernel_rfl), of_kr (by kernel_rfl), of_kb (by kernel_rfl), of_kbo (by kernel_rfl), of_kr (by kernel_rfl), of_kfd (by kernel_rfl), of_kpl (by kernel_rfl), of_kr (by kernel_rfl), of_kr (by kernel_rfl), of_kik (by kernel_rfl), of_keq (by kernel_rfl)⟩
theorem tiok76 : TGood Try.prog 76 ti76 := ⟨of_kr (by kernel_rfl), of_kr (by kernel_rfl), of_kb (by kernel_rfl), of_kbo (by kernel_rfl), of_kr (by kernel_rfl), of_kfd (by kernel_rfl), of_kpl (by kernel_rfl), of_kr (by kernel_rfl), of_kr (by kernel_rfl), of_kik (by kernel_rfl), of_keq (by kernel_rfl)⟩
theorem tiok77 : TGood Try.prog 77 ti77 := ⟨of_kr (by kernel_rfl), of_kr (by kernel_rfl), of_kb (by kernel_rfl), of_kbo (by kernel_rfl), of_kr (by kernel_rfl), of_kfd (by kernel_rfl), of_kpl (by kernel_rfl), of_kr (by kernel_rfl), of_kr (by kernel_rfl), of_kik (by kernel_rfl), of_keq (by kernel_rfl)⟩
theorem tiok78 : TGood Try.prog 78 ti78 := ⟨of_kr (by kernel_rfl), of_kr (by kernel_rfl), of_kb (by kernel_rfl), of_kbo (by kernel_rfl), of_kr (by kernel_rfl), of_kfd (by kernel_rfl), of_kpl (by kernel_rfl), of_kr (by kernel_rfl), of_kr (by kernel_rfl), of_kik (by kernel_rfl), of_keq (by kernel_rfl)⟩
theorem tiok79 : TGood Try.prog 79 ti79 := ⟨of_kr (by kernel_rfl), of_kr (by kernel_rfl), of_kb (by kernel_rfl), of_kbo (by kernel_rfl), of_kr (by kernel_rfl), of_kfd (by kernel_rfl), of_kpl (by kernel_rfl), of_kr (by kernel_rfl), of_kr (by kernel_rfl), of_kik (by kernel_rfl), of_keq (by kernel_rfl)⟩
theorem tiok80 : TGood Try.prog 80 ti80 := ⟨of_kr (by kernel_rfl), of_kr (by kernel_rfl), of_kb (by kernel_rfl), of_kbo (by kernel_rfl), of_kr (by kernel_rfl), of_kfd (by kernel_rfl), of_kpl (by kernel_rfl), of_kr (by kernel_rfl), of_kr (by kernel_rfl), of_kik (by kernel_rfl), of_keq (by kernel_rfl)⟩
theorem tiok81 : TGood Try.prog 81 ti81 := ⟨of_kr (by kernel_rfl), of_kr (by kernel_rfl), of_kb (by kernel_rfl), of_kbo (by kernel_rfl), of_kr (by kernel_rfl), of_kfd (by kernel_rfl), of_kpl (by kernel_rfl), of_kr (by kernel_rfl), of_kr (by kernel_rfl), of_kik (by kernel_rfl), of_keq (by kernel_rfl)⟩
theorem tiok83 : TGood Try.prog 83 ti83 := ⟨of_kr (by kernel_rfl), of_kr (by kernel_rfl), of_kb (by kernel_rfl), of_kbo (by kernel_rfl), of_kr (by kernel_rfl), of_kfd (by kernel_rfl), of_kpl (by kernel_rfl), of_kr (by kernel_rfl), of_kr (by kernel_rfl), of_kik (by kernel_rfl), of_keq (by kernel_rfl)⟩
theorem tiok84 : TGood Try.prog 84 ti84 := ⟨of_kr (by kernel_rfl), of_kr (by kernel_rfl), of_kb (by kernel_rfl), of_kbo (by kernel_rfl), of_kr (by kernel_rfl), of_kfd (by kernel_rfl), of_kpl (by kernel_rfl), of_kr (by kernel_rfl), of_kr (by kernel_rfl), of_kik (by kernel_rfl), of_keq (by kernel_rfl)⟩
theorem tiok85 : TGood Try.prog 85 ti85 := ⟨of_kr (by kernel_rfl), of_kr (by kernel_rfl), of_kb (by kernel_rfl), of_kbo (by kernel_rfl), of_kr (by kernel_rfl), of_kfd (by kernel_rfl), of_kpl (by kernel_rfl), of_kr (by kernel_rfl), of_kr (by kernel_rfl), of_kik (by kernel_rfl), of_keq (by kernel_rfl)⟩
theorem tiok86 : TGood Try.prog 86 ti86 := ⟨of_kr (by kernel_rfl), of_kr (by kernel_rfl), of_kb (by kernel_rfl), of_kbo (by kernel_rfl), of_kr (by kernel_rfl), of_kfd (by kernel_rfl), of_kpl (by kernel_rfl), of_kr (by kernel_rfl), of_kr (by kernel_rfl), of_kik (by kernel_rfl), of_keq (by kernel_rfl)⟩
theorem tiok87 : TGood Try.prog 87 ti87 := ⟨of_kr (by kernel_rfl), of_kr (by kernel_rfl), of_kb (by kernel_rfl), of_kbo (by kernel_rfl), of_kr (by kernel_rfl), of_kfd (by kernel_rfl), of_kpl (by kernel_rfl), of_kr (by kernel_rfl), of_kr (by kernel_rfl), of_kik (by kernel_rfl), of_keq (by kernel_rfl)⟩
theorem tiok88 : TGood Try.prog 88 ti88 := ⟨of_kr (by kernel_rfl), of_kr (by kernel_rfl), of_kb (by kernel_rfl), of_kbo (by kernel_rfl), of_kr (by kernel_rfl), of_kfd (by kernel_rfl), of_kpl (by kernel_rfl), of_kr (by kernel_rfl), of_kr (by kernel_rfl), of_kik (by kernel_rfl), of_keq (by kernel_rfl)⟩
theorem tiok89 : TGood Try.prog 89 ti89 := ⟨of_kr (by kernel_rfl), of_kr (by kernel_rfl), of_kb (by kernel_rfl), of_kbo (by kernel_rfl), of_kr (by kernel_rfl), of_kfd (by kernel_rfl), of_kpl (by kernel_rfl), of_kr (by kernel_rfl), of_kr (by kernel_rfl), of_kik (by kernel_rfl), of_keq (by kernel_rfl)⟩
theorem tiok91 : TGood Try.prog 91 ti91 := ⟨of_kr (by kernel_rfl), of_kr (by kernel_rfl), of_kb (by kernel_rfl), of_kbo (by kernel_rfl), of_kr (by kernel_rfl), of_kfd (by kernel_rfl), of_kpl (by kernel_rfl), of_kr (by kernel_rfl), of_kr (by kernel_rfl), of_kik (by kernel_rfl), of_keq (by kernel_rfl)⟩
theorem tiok92 : TGood Try.prog 92 ti92 := ⟨of_kr (by kernel_rfl), of_kr (by kernel_rfl), of_kb (by kernel_rfl), of_kbo (by kernel_rfl), of_kr (by kernel_rfl), of_kfd (by kernel_rfl), of_kpl (by kernel_rfl), of_kr (by kernel_rfl), of_kr (by kernel_rfl), of_kik (by kernel_rfl), of_keq (by kernel_rfl)⟩
theorem tiok93 : TGood Try.prog 93 ti93 := ⟨of_kr (by kernel_rfl), of_kr (by kernel_rfl), of_kb (by kernel_rfl), of_kbo (by kernel_rfl), of_kr (by kernel_rfl), of_kfd (by kernel_rfl), of_kpl (by kernel_rfl), of_kr (by kernel_rfl), of_kr (by kernel_rfl), of_kik (by kernel_rfl), of_keq (by kernel_rfl)⟩
theorem tiok94 : TGood Try.prog 94 ti94 := ⟨of_kr (by kernel_rfl), of_kr (by kernel_rfl), of_kb (by kernel_rfl), of_kbo (by kernel_rfl), of_kr (by kernel_rfl), of_kfd (by kernel_rfl), of_kpl (by kernel_rfl), of_kr (by kernel_rfl), of_kr (by kernel_rfl), of_kik (by kernel_rfl), of_keq (by kernel_rfl)⟩
theorem tiok95 : TGood Try.prog 95 ti95 := ⟨of_kr (by kernel_rfl), of_kr (by kernel_rfl), of_kb (by kernel_rfl), of_kbo (by kernel_rfl), of_kr (by kernel_rfl), of_kfd (by kernel_rfl), of_kpl (by kernel_rfl), of_kr (by kernel_rfl), of_kr (by kernel_rfl), of_kik (by kernel_rfl), of_keq (by kernel_rfl)⟩
theorem tiok96 : TGood Try.prog 96 ti96 := ⟨of_kr (by kernel_rfl), of_kr (by kernel_rfl), of_kb (by kernel_rfl), of_kbo (by kernel_rfl), of_kr (by kernel_rfl), of_kfd (by kernel_rfl), of_kpl (by kernel_rfl), of_kr (by kernel_rfl), of_kr (by kernel_rfl), of_kik (by kernel_rfl), of_keq (by kernel_rfl)⟩
theorem tiok97 : TGood Try.prog 97 ti97 := ⟨of_kr (by kernel_rfl), of_kr (by kernel_rfl), of_kb (by kernel_rfl), of_kbo (by kernel_rfl), of_kr (by kernel_rfl), of_kfd (by kernel_rfl), of_kpl (by kernel_rfl), of_kr (by kernel_rfl), of_kr (by kernel_rfl), of_kik (by kernel_rfl), of_keq (by kernel_rfl)⟩
theorem tiok98 : TGood Try.prog 98 ti98 := ⟨of_kr (by kernel_rfl), of_kr (by kernel_rfl), of_kb (by kernel_rfl), of_kbo (by kernel_rfl), of_kr (by kernel_rfl), of_kfd (by kernel_rfl), of_kpl (by kernel_rfl), of_kr (by kernel_rfl), of_kr (by kernel_rfl), of_kik (by kernel_rfl), of_keq (by kernel_rfl)⟩
theorem tiok100 : TGood Try.prog 100 ti100 := ⟨of_kr (by kernel_rfl), of_kr (by kernel_rfl), of_kb (by kernel_rfl), of_kbo (by kernel_rfl), of_kr (by kernel_rfl), of_kfd (by kernel_rfl), of_kpl (by kernel_rfl), of_kr (by kernel_rfl), of_kr (by kernel_rfl), of_kik (by kernel_rfl), of_keq (by kernel_rfl)⟩
theorem tiok102 : TGood Try.prog 102 ti102 := ⟨of_kr (by kernel_rfl), of_kr (by kernel_rfl), of_kb (by kernel_rfl), of_kbo (by kernel_rfl), of_kr (by kernel_rfl), of_kfd (by kernel_rfl), of_kpl (by kernel_rfl), of_kr (by kernel_rfl), of_kr (by kernel_rfl), of_kik (by kernel_rfl), of_keq (by kernel_rfl)⟩
theorem tiok103 : TGood Try.prog 103 ti103 := ⟨of_kr (by kernel_rfl), of_kr (by kernel_rfl), of_kb (by kernel_rfl), of_kbo (by kernel_rfl), of_kr (by kernel_rfl), of_kfd (by kernel_rfl), of_kpl (by kernel_rfl), of_kr (by kernel_rfl), of_kr (by kernel_rfl), of_kik (by kernel_rfl), of_keq (by kernel_rfl)⟩
theorem tiok104 : TGood Try.prog 104 ti104 := ⟨of_kr (by kernel_rfl), of_kr (by kernel_rfl), of_kb (by kernel_rfl), of_kbo (by kernel_rfl), of_kr (by kernel_rfl), of_kfd (by kernel_rfl), of_kpl (by kernel_rfl), of_kr (by kernel_rfl), of_kr (by kernel_rfl), of_kik (by kernel_rfl), of_keq (by kernel_rfl)⟩
theorem tiok105 : TGood Try.prog 105 ti105 := ⟨of_kr (by kernel_rfl), of_kr (by kernel_rfl), of_kb (by kernel_rfl), of_kbo (by kernel_rfl), of_kr (by kernel_rfl), of_kfd (by kernel_rfl), of_kpl (by kernel_rfl), of_kr (by kernel_rfl), of_kr (by kernel_rfl), of_kik (by kernel_rfl), of_keq (by kernel_rfl)⟩
theorem tiok106 : TGood Try.prog 106 ti106 := ⟨of_kr (by kernel_rfl), of_kr (by kernel_rfl), of_kb (by kernel_rfl), of_kbo (by kernel_rfl), of_kr (by kernel_rfl), of_kfd (by kernel_rfl), of_kpl (by kernel_rfl), of_kr (by kernel_rfl), of_kr (by kernel_rfl), of_kik (by kernel_rfl), of_keq (by kernel_rfl)⟩
theorem tiok107 : TGood Try.prog 107 ti107 := ⟨of_kr (by kernel_rfl), of_kr (by kernel_rfl), of_kb (by kernel_rfl), of_kbo (by kernel_rfl), of_kr (by kernel_rfl), of_kfd (by kernel_rfl), of_kpl (by kernel_rfl), of_kr (by kernel_rfl), of_kr (by kernel_rfl), of_kik (by kernel_rfl), of_keq (by kernel_rfl)⟩
theorem tiok108 : TGood Try.prog 108 ti108 := ⟨of_kr (by kernel_rfl), of_kr (by kernel_rfl), of_kb (by kernel_rfl), of_kbo (by kernel_rfl), of_kr (by kernel_rfl), of_kfd (by kernel_rfl), of_kpl (by kernel_rfl), of_kr (by kernel_rfl), of_kr (by kernel_rfl), of_kik (by kernel_rfl), of_keq (by kernel_rfl)⟩
theorem tiok109 : TGood Try.prog 109 ti109 := ⟨of_kr (by kernel_rfl), of_kr (by kernel_rfl), of_kb (by kernel_rfl), of_kbo (by kernel_rfl), of_kr (by kernel_rfl), of_kfd (by kernel_rfl), of_kpl (by kernel_rfl), of_kr (by kernel_rfl), of_kr (by kernel_rfl), of_kik (by kernel_rfl), of_keq (by kernel_rfl)⟩
theorem tiok110 : TGood Try.prog 110 ti110 := ⟨of_kr (by kernel_rfl), of_kr (by kernel_rfl), of_kb (by kernel_rfl), of_kbo (by kernel_rfl), of_kr (by kernel_rfl), of_kfd (by kernel_rfl), of_kpl (by kernel_rfl), of_kr (by kernel_rfl), of_kr (by kernel_rfl), of_kik (by kernel_rfl), of_keq (by kernel_rfl)⟩
theorem tiok112 : TGood Try.prog 112 ti112 := ⟨of_kr (by kernel_rfl), of_kr (by kernel_rfl), of_kb (by kernel_rfl), of_kbo (by kernel_rfl), of_kr (by kernel_rfl), of_kfd (by kernel_rfl), of_kpl (by kernel_rfl), of_kr (by kernel_rfl), of_kr (by kernel_rfl), of_kik (by kernel_rfl), of_keq (by kernel_rfl)⟩
theorem tiok113 : TGood Try.prog 113 ti113 := ⟨of_kr (by kernel_rfl), of_kr (by kernel_rfl), of_kb (by kernel_rfl), of_kbo (by kernel_rfl), of_kr (by kernel_rfl), of_kfd (by kernel_rfl), of_kpl (by kernel_rfl), of_kr (by kernel_rfl), of_kr (by kernel_rfl), of_kik (by kernel_rfl), of_keq (by kernel_rfl)⟩
theorem tiok114 : TGood Try.prog 114 ti114 := ⟨of_kr (by kernel_rfl), of_kr (by kernel_rfl), of_kb (by kernel_rfl), of_kbo (by kernel_rfl), of_kr (by kernel_rfl), of_kfd (by kernel_rfl), of_kpl (by kernel_rfl), of_kr (by kernel_rfl), of_kr (by kernel_rfl), of_kik (by kernel_rfl), of_keq (by kernel_rfl)⟩
theorem tiok116 : TGood Try.prog 116 ti116 := ⟨of_kr (by kernel_rfl), of_kr (by kernel_rfl), of_kb (by kernel_rfl), of_kbo (by kernel_rfl), of_kr (by kernel_rfl), of_kfd (by kernel_rfl), of_kpl (by kernel_rfl), of_kr (by kernel_rfl), of_kr (by kernel_rfl), of_kik (by kernel_rfl), of_keq (by kernel_rfl)⟩
theorem tiok117 : TGood Try.prog 117 ti117 := ⟨of_kr (by kernel_rfl), of_kr (by kernel_rfl), of_kb (by kernel_rfl), of_kbo (by kernel_rfl), of_kr (by kernel_rfl), of_kfd (by kernel_rfl), of_kpl (by kernel_rfl), of_kr (by kernel_rfl), of_kr (by kernel_rfl), of_kik (by kernel_rfl), of_keq (by kernel_rfl)⟩
theorem tiok118 : TGood Try.prog 118 ti118 := ⟨of_kr (by kernel_rfl), of_kr (by kernel_rfl), of_kb (by kernel_rfl), of_kbo (by kernel_rfl), of_kr (by kernel_rfl), of_kfd (by kernel_rfl), of_kpl (by kernel_rfl), of_kr (by kernel_rfl), of_kr (by kernel_rfl), of_kik (by kernel_rfl), of_keq (by kernel_rfl)⟩
theorem tiok119 : TGood Try.prog 119 ti119 := ⟨of_kr (by kernel_rfl), of_kr (by kernel_rfl), of_kb (by kernel_rfl), of_kbo (by kernel_rfl), of_kr (by kernel_rfl), of_kfd (by kernel_rfl), of_kpl (by kernel_rfl), of_kr (by kernel_rfl), of_kr (by kernel_rfl), of_kik (by kernel_rfl), of_keq (by kernel_rfl)⟩
theorem tiok120 : TGood Try.prog 120 ti120 := ⟨of_kr (by kernel_rfl), of_kr (by kernel_rfl), of_kb (by kernel_rfl), of_kbo (by kernel_rfl), of_kr (by kernel_rfl), of_kfd (by kernel_rfl), of_kpl (by kernel_rfl), of_kr (by kernel_rfl), of_kr (by kernel_rfl), of_kik (by kernel_rfl), of_keq (by kernel_rfl)⟩
theorem tiok121 : TGood Try.prog 121 ti121 := ⟨of_kr (by kernel_rfl), of_kr (by kernel_rfl), of_kb (by kernel_rfl), of_kbo (by kernel_rfl), of_kr (by kernel_rfl), of_kfd (by kernel_rfl), of_kpl (by kernel_rfl), of_kr (by kernel_rfl), of_kr (by kernel_rfl), of_kik (by kernel_rfl), of_keq (by kernel_rfl)⟩
theorem tiok122 : TGood Try.prog 122 ti122 := ⟨of_kr (by kernel_rfl), of_kr (by kernel_rfl), of_kb (by kernel_rfl), of_kbo (by kernel_rfl), of_kr (by kernel_rfl), of_kfd (by kernel_rfl), of_kpl (by kernel_rfl), of_kr (by kernel_rfl), of_kr (by kernel_rfl), of_kik (by kernel_rfl), of_keq (by kernel_rfl)⟩
theorem tiok123 : TGood Try.prog 123 ti123 := ⟨of_kr (by kernel_rfl), of_kr (by kernel_rfl), of_kb (by kernel_rfl), of_kbo (by kernel_rfl), of_kr (by kernel_rfl), of_kfd (by kernel_rfl), of_kpl (by kernel_rfl), of_kr (by kernel_rfl), of_kr (by kernel_rfl), of_kik (by kernel_rfl), of_keq (by kernel_rfl)⟩
theorem tiok125 : TGood Try.prog 125 ti125 := ⟨of_kr (by kernel_rfl), of_kr (by kernel_rfl), of_kb (by kernel_rfl), of_kbo (by kernel_rfl), of_kr (by kernel_rfl), of_kfd (by kernel_rfl), of_kpl (by kernel_rfl), of_kr (by kernel_rfl), of_kr (by kernel_rfl), of_kik (by kernel_rfl), of_keq (by kernel_rfl)⟩
theorem tiok126 : TGood Try.prog 126 ti126 := ⟨of_kr (by kernel_rfl), of_kr (by kernel_rfl), of_kb (by kernel_rfl), of_kbo (by kernel_rfl), of_kr (by kernel_rfl), of_kfd (by kernel_rfl), of_kpl (by kernel_rfl), of_kr (by kernel_rfl), of_kr (by kernel_rfl), of_kik (by kernel_rfl), of_keq (by kernel_rfl)⟩
theorem tiok127 : TGood Try.prog 127 ti127 := ⟨of_kr (by kernel_rfl), of_kr (by kernel_rfl), of_kb (by kernel_rfl), of_kbo (by kernel_rfl), of_kr (by kernel_rfl), of_kfd (by kernel_rfl), of_kpl (by kernel_rfl), of_kr (by kernel_rfl), of_kr (by kernel_rfl), of_kik (by kernel_rfl), of_keq (by kernel_rfl)⟩
theorem tiok128 : TGood Try.prog 128 ti128 := ⟨of_kr (by kernel_rfl), of_kr (by kernel_rfl), of_kb (by kernel_rfl), of_kbo (by kernel_rfl), of_kr (by kernel_rfl), of_kfd (by kernel_rfl), of_kpl (by kernel_rfl), of_kr (by kernel_rfl), of_kr (by kernel_rfl), of_kik (by kernel_rfl), of_keq (by kernel_rfl)⟩
theorem tiok130 : TGood Try.prog 130 ti130 := ⟨of_kr (by kernel_rfl), of_kr (by kernel_rfl), of_kb (by kernel_rfl), of_kbo (by kernel_rfl), of_kr (by kernel_rfl), of_kfd (by kernel_rfl), of_kpl (by kernel_rfl), of_kr (by kernel_rfl), of_kr (by kernel_rfl), of_kik (by kernel_rfl), of_keq (by kernel_rfl)⟩
theorem tiok131 : TGood Try.prog 131 ti131 := ⟨of_kr (by kernel_rfl), of_kr (by kernel_rfl), of_kb (by kernel_rfl), of_kbo (by kernel_rfl), of_kr (by kernel_rfl), of_kfd (by kernel_rfl), of_kpl (by kernel_rfl), of_kr (by kernel_rfl), of_kr (by kernel_rfl), of_kik (by kernel_rfl), of_keq (by kernel_rfl)⟩
theorem tiok132 : TGood Try.prog 132 ti132 := ⟨of_kr (by kernel_rfl), of_kr (by kernel_rfl), of_kb (by kernel_rfl), of_kbo (by kernel_rfl), of_kr (by kernel_rfl), of_kfd (by kernel_rfl), of_kpl (by kernel_rfl), of_kr (by kernel_rfl), of_kr (by kernel_rfl), of_kik (by kernel_rfl), of_keq (by kernel_rfl)⟩
theorem tiok133 : TGood Try.prog 133 ti133 := ⟨of_kr (by kernel_rfl), of_kr (by kernel_rfl), of_kb (by kernel_rfl), of_kbo (by kernel_rfl), of_kr (by kernel_rfl), of_kfd (by kernel_rfl), of_kpl (by kernel_rfl), of_kr (by kernel_rfl), of_kr (by kernel_rfl), of_kik (by kernel_rfl), of_keq (by kernel_rfl)⟩
theorem tiok134 : TGood Try.prog 134 ti134 := ⟨of_kr (by kernel_rfl), of_kr (by kernel_rfl), of_kb (by kernel_rfl), of_kbo (by kernel_rfl), of_kr (by kernel_rfl), of_kfd (by kernel_rfl), of_kpl (by kernel_rfl), of_kr (by kernel_rfl), of_kr (by kernel_rfl), of_kik (by kernel_rfl), of_keq (by kernel_rfl)⟩
theorem tiok135 : TGood Try.prog 135 ti135 := ⟨of_kr (by kernel_rfl), of_kr (by kernel_rfl), of_kb (by kernel_rfl), of_kbo (by kernel_rfl), of_kr (by kernel_rfl), of_kfd (by kernel_rfl), of_kpl (by kernel_rfl), of_kr (by kernel_rfl), of_kr (by kernel_rfl), of_kik (by kernel_rfl), of_keq (by kernel_rfl)⟩
theorem tiok136 : TGood Try.prog 136 ti136 := ⟨of_kr (by kernel_rfl), of_kr (by kernel_rfl), of_kb (by kernel_rfl), of_kbo (by kernel_rfl), of_kr (by kernel_rfl), of_kfd (by kernel_rfl), of_kpl (by kernel_rfl), of_kr (by kernel_rfl), of_kr (by kernel_rfl), of_kik (by kernel_rfl), of_keq (by kernel_rfl)⟩
theorem tiok137 : TGood Try.prog 137 ti137 := ⟨of_kr (by kernel_rfl), of_kr (by kernel_rfl), of_kb (by kernel_rfl), of_kbo (by kernel_rfl), of_kr (by kernel_rfl), of_kfd (by kernel_rfl), of_kpl (by kernel_rfl), of_kr (by kernel_rfl), of_kr (by kernel_rfl), of_kik (by kernel_rfl), of_keq (by kernel_rfl)⟩
theorem tiok138 : TGood Try.prog 138 ti138 := ⟨of_kr (by kernel_rfl), of_kr (by kernel_rfl), of_kb (by kernel_rfl), of_kbo (by kernel_rfl), of_kr (by kernel_rfl), of_kfd (by kernel_rfl), of_kpl (by kernel_rfl), of_kr (by kernel_rfl), of_kr (by kernel_rfl), of_kik (by kernel_rfl), of_keq (by kernel_rfl)⟩
theorem tiok139 : TGood Try.prog 139 ti139 := ⟨of_kr (by kernel_rfl), of_kr (by kernel_rfl), of_kb (by kernel_rfl), of_kbo (by kernel_rfl), of_kr (by kernel_rfl), of_kfd (by kernel_rfl), of_kpl (by kernel_rfl), of_kr (by kernel_rfl), of_kr (by kernel_rfl), of_kik (by kernel_rfl), of_keq (by kernel_rfl)⟩
theorem tiok140 : TGood Try.prog 140 ti140 := ⟨of_kr (by kernel_rfl), of_kr (by kernel_rfl), of_kb (by kernel_rfl), of_kbo (by kernel_rfl), of_kr (by kernel_rfl), of_kfd (by kernel_rfl), of_kpl (by kernel_rfl), of_kr (by kernel_rfl), of_kr (by kernel_rfl), of_kik (by kernel_rfl), of_keq (by kernel_rfl)⟩
theorem tiok141 : TGood Try.prog 141 ti141 := ⟨of_kr (by kernel_rfl), of_kr (by kernel_rfl), of_kb (by kernel_rfl), of_kbo (by kernel_rfl), of_kr (by kernel_rfl), of_kfd (by kernel_rfl), of_kpl (by kernel_rfl), of_kr (by kernel_rfl), of_kr (by kernel_rfl), of_kik (by kernel_rfl), of_keq (by kernel_rfl)⟩
theorem tiok142 : TGood Try.prog 142 ti142 := ⟨of_kr (by kernel_rfl), of_kr (by kernel_rfl), of_kb (by kernel_rfl), of_kbo (by kernel_rfl), of_kr (by kernel_rfl), of_kfd (by kernel_rfl), of_kpl (by kernel_rfl), of_kr (by kernel_rfl), of_kr (by kernel_rfl), of_kik (by kernel_rfl), of_keq (by kernel_rfl)⟩
theorem tiok143 : TGood Try.prog 143 ti143 := ⟨of_kr (by kernel_rfl), of_kr (by kernel_rfl), of_kb (by kernel_rfl), of_kbo (by kernel_rfl), of_kr (by kernel_rfl), of_kfd (by kernel_rfl), of_kpl (by kernel_rfl), of_kr (by kernel_rfl), of_kr (by kernel_rfl), of_kik (by kernel_rfl), of_keq (by kernel_rfl)⟩
theorem tiok144 : TGood Try.prog 144 ti144 := ⟨of_kr (by kernel_rfl), of_kr (by kernel_rfl), of_kb (by kernel_rfl), of_kbo (by kernel_rfl), of_kr (by kernel_rfl), of_kfd (by kernel_rfl), of_kpl (by kernel_rfl), of_kr (by kernel_rfl), of_kr (by kernel_rfl), of_kik (by kernel_rfl), of_keq (by kernel_rfl)⟩
theorem tiok147 : TGood Try.prog 147 ti147 := ⟨of_kr (by kernel_rfl), of_kr (by kernel_rfl), of_kb (by kernel_rfl), of_kbo (by kernel_rfl), of_kr (by kernel_rfl), of_kfd (by kernel_rfl), of_kpl (by kernel_rfl), of_kr (by kernel_rfl), of_kr (by kernel_rfl), of_kik (by kernel_rfl), of_keq (by kernel_rfl)⟩
theorem tiok148 : TGood Try.prog 148 ti148 := ⟨of_kr (by kernel_rfl), of_kr (by kernel_rfl), of_kb (by kernel_rfl), of_kbo (by kernel_rfl), of_kr (by kernel_rfl), of_kfd (by kernel_rfl), of_kpl (by kernel_rfl), of_kr (by kernel_rfl), of_kr (by kernel_rfl), of_kik (by kernel_rfl), of_keq (by kernel_rfl)⟩
theorem tiok149 : TGood Try.prog 149 ti149 := ⟨of_kr (by kernel_rfl), of_kr (by kernel_rfl), of_kb (by kernel_rfl), of_kbo (by kernel_rfl), of_kr (by kernel_rfl), of_kfd (by kernel_rfl), of_kpl (by kernel_rfl), of_kr (by kernel_rfl), of_kr (by kernel_rfl), of_kik (by kernel_rfl), of_keq (by kernel_rfl)⟩
theorem tiok150 : TGood Try.prog 150 ti150 := ⟨of_kr (by kernel_rfl), of_kr (by kernel_rfl), of_kb (by kernel_rfl), of_kbo (by kernel_rfl), of_kr (by kernel_rfl), of_kfd (by kernel_rfl), of_kpl (by kernel_rfl), of_kr (by kernel_rfl), of_kr (by kernel_rfl), of_kik (by kernel_rfl), of_keq (by kernel_rfl)⟩
theorem tiok151 : TGood Try.prog 151 ti151 := ⟨of_kr (by kernel_rfl), of_kr (by kernel_rfl), of_kb (by kernel_rfl), of_kbo (by kernel_rfl), of_kr (by kernel_rfl), of_kfd (by kernel_rfl), of_kpl (by kernel_rfl), of_kr (by kernel_rfl), of_kr (by kernel_rfl), of_kik (by kernel_rfl), of_keq (by kernel_rfl)⟩
theorem tiok152 : TGood Try.prog 152 ti152 := ⟨of_kr (by kernel_rfl), of_kr (by kernel_rfl), of_kb (by kernel_rfl), of_kbo (by kernel_rfl), of_kr (by kernel_rfl), of_kfd (by kernel_rfl), of_kpl (by kernel_rfl), of_kr (by kernel_rfl), of_kr (by kernel_rfl), of_kik (by kernel_rfl), of_keq (by kernel_rfl)⟩
theorem tiok153 : TGood Try.prog 153 ti153 := ⟨of_kr (by kernel_rfl), of_kr (by kernel_rfl), of_kb (by kernel_rfl), of_kbo (by kernel_rfl), of_kr (by kernel_rfl), of_kfd (by kernel_rfl), of_kpl (by kernel_rfl), of_kr (by kernel_rfl), of_kr (by kernel_rfl), of_kik (by kernel_rfl), of_keq (by kernel_rfl)⟩
theorem tiok154 : TGood Try.prog 154 ti154 := ⟨of_kr (by kernel_rfl), of_kr (by kernel_rfl), of_kb (by kernel_rfl), of_kbo (by kernel_rfl), of_kr (by kernel_rfl), of_kfd (by kernel_rfl), of_kpl (by kernel_rfl), of_kr (by kernel_rfl), of_kr (by kernel_rfl), of_kik (by kernel_rfl), of_keq (by kernel_rfl)⟩
theorem tiok155 : TGood Try.prog 155 ti155 := ⟨of_kr (by kernel_rfl), of_kr (by kernel_rfl), of_kb (by kernel_rfl), of_kbo (by kernel_rfl), of_kr (by kernel_rfl), of_kfd (by kernel_rfl), of_kpl (by kernel_rfl), of_kr (by kernel_rfl), of_kr (by kernel_rfl), of_kik (by kernel_rfl), of_keq (by kernel_rfl)⟩
theorem tiok156 : TGood Try.prog 156 ti156 := ⟨of_kr (by kernel_rfl), of_kr (by kernel_rfl), of_kb (by kernel_rfl), of_kbo (by kernel_rfl), of_kr (by kernel_rfl), of_kfd (by kernel_rfl), of_kpl (by kernel_rfl), of_kr (by kernel_rfl), of_kr (by kernel_rfl), of_kik (by kernel_rfl), of_keq (by kernel_rfl)⟩
theorem tiok157 : TGood Try.prog 157 ti157 := ⟨of_kr (by kernel_rfl), of_kr (by kernel_rfl), of_kb (by kernel_rfl), of_kbo (by kernel_rfl), of_kr (by kernel_rfl), of_kfd (by kernel_rfl), of_kpl (by kernel_rfl), of_kr (by kernel_rfl), of_kr (by kernel_rfl), of_kik (by kernel_rfl), of_keq (by kernel_rfl)⟩
theorem tiok158 : TGood Try.prog 158 ti158 := ⟨of_kr (by kernel_rfl), of_kr (by kernel_rfl), of_kb (by kernel_rfl), of_kbo (by kernel_rfl), of_kr (by kernel_rfl), of_kfd (by kernel_rfl), of_kpl (by kernel_rfl), of_kr (by kernel_rfl), of_kr (by kernel_rfl), of_kik (by kernel_rfl), of_keq (by kernel_rfl)⟩
theorem tiok159 : TGood Try.prog 159 ti159 := ⟨of_kr (by kernel_rfl), of_kr (by kernel_rfl), of_kb (by kernel_rfl), of_kbo (by kernel_rfl), of_kr (by kernel_rfl), of_kfd (by kernel_rfl), of_kpl (by kernel_rfl), of_kr (by kernel_rfl), of_kr (by kernel_rfl), of_kik (by kernel_rfl), of_keq (by kernel_rfl)⟩
def T (t : TypeId) : TInfo := tiF tiL t
theorem tOk : TOk Try.prog T := tok_of (tiAll_cons tiok1 (tiAll_cons tiok2 (tiAll_cons tiok3 (tiAll_cons tiok4 (tiAll_cons tiok5 (tiAll_cons tiok6 (tiAll_cons tiok7 (tiAll_cons tiok8 (tiAll_cons tiok12 (tiAll_cons tiok15 (tiAll_cons tiok16 (tiAll_cons tiok17 (tiAll_cons tiok18 (tiAll_cons tiok19 (tiAll_cons tiok21 (tiAll_cons tiok22 (tiAll_cons tiok23 (tiAll_cons tiok24 (tiAll_cons tiok25 (tiAll_cons tiok26 (tiAll_cons tiok27 (tiAll_cons tiok28 (tiAll_cons tiok29 (tiAll_cons tiok30 (tiAll_cons tiok31 (tiAll_cons tiok32 (tiAll_cons tiok33 (tiAll_cons tiok34 (tiAll_cons tiok35 (tiAll_cons tiok36 (tiAll_cons tiok37 (tiAll_cons tiok39 (tiAll_cons tiok41 (tiAll_cons tiok42 (tiAll_cons tiok43 (tiAll_cons tiok44 (tiAll_cons tiok45 (tiAll_cons tiok46 (tiAll_cons tiok48 (tiAll_cons tiok49 (tiAll_cons tiok50 (tiAll_cons tiok52 (tiAll_cons tiok53 (tiAll_cons tiok54 (tiAll_cons tiok55 (tiAll_cons tiok56 (tiAll_cons tiok57 (tiAll_cons tiok58 (tiAll_cons tiok59 (tiAll_cons tiok60 (tiAll_cons tiok61 (tiAll_cons tiok62 (tiAll_cons tiok63 (tiAll_cons tiok64 (tiAll_cons tiok65 (tiAll_cons tiok66 (tiAll_cons tiok67 (tiAll_cons tiok68 (tiAll_cons tiok69 (tiAll_cons tiok70 (tiAll_cons tiok72 (tiAll_cons tiok73 (tiAll_cons tiok74 (tiAll_cons tiok75 (tiAll_cons tiok76 (tiAll_cons tiok77 (tiAll_cons tiok78 (tiAll_cons tiok79 (tiAll_cons tiok80 (tiAll_cons tiok81 (tiAll_cons tiok83 (tiAll_cons tiok84 (tiAll_cons tiok85 (tiAll_cons tiok86 (tiAll_cons tiok87 (tiAll_cons tiok88 (tiAll_cons tiok89 (tiAll_cons tiok91 (tiAll_cons tiok92 (tiAll_cons tiok93 (tiAll_cons tiok94 (tiAll_cons tiok95 (tiAll_cons tiok96 (tiAll_cons tiok97 (tiAll_cons tiok98 (tiAll_cons tiok100 (tiAll_cons tiok102 (tiAll_cons tiok103 (tiAll_cons tiok104 (tiAll_cons tiok105 (tiAll_cons tiok106 (tiAll_cons tiok107 (tiAll_cons tiok108 (tiAll_cons tiok109 (tiAll_cons tiok110 (tiAll_cons tiok112 (tiAll_cons tiok113 (tiAll_cons tiok114 (tiAll_cons tiok116 (tiAll_cons tiok117 (tiAll_cons tiok118 (tiAll_cons tiok119 (tiAll_cons tiok120 (tiAll_cons tiok121 (tiAll_cons tiok122 (tiAll_cons tiok123 (tiAll_cons tiok125 (tiAll_cons tiok126 (tiAll_cons tiok127 (tiAll_cons tiok128 (tiAll_cons tiok130 (tiAll_cons tiok131 (tiAll_cons tiok132 (tiAll_cons tiok133 (tiAll_cons tiok134 (tiAll_cons tiok135 (tiAll_cons tiok136 (tiAll_cons tiok137 (tiAll_cons tiok138 (tiAll_cons tiok139 (tiAll_cons tiok140 (tiAll_cons tiok141 (tiAll_cons tiok142 (tiAll_cons tiok143 (tiAll_cons tiok144 (tiAll_cons tiok147 (tiAll_cons tiok148 (tiAll_cons tiok149 (tiAll_cons tiok150 (tiAll_cons tiok151 (tiAll_cons tiok152 (tiAll_cons tiok153 (tiAll_cons tiok154 (tiAll_cons tiok155 (tiAll_cons tiok156 (tiAll_cons tiok157 (tiAll_cons tiok158 (tiAll_cons tiok159 (tiAll_nil)))))))))))))))))))))))))))))))))))))))))))))))))))))))))))))))))))))))))))))))))))))))))))))))))))))))))))))))))))))))))))))))))))))))))))
theorem mixed : Try.prog.follows .mixedOrders = true := by kernel_rfl
end Go.Proofs.Ytdahghkmejnlgaa
end
section
set_option linter.unusedVariables false
set_option linter.unusedSimpArgs false
set_option maxRecDepth 100000
namespace Go.Proofs.Ytdahghkmejnlgaa
open Go Go.RowKit
/-- one operation, reckoned -/
theorem step_ex {P : Program} {T : TypeId → TInfo} (hT : TOk P T) {ops rest : List Oper} {Q : Exit → Act → World → Prop} {op : Op} {d : Nat} {ty : TypeId} {pos : String} {af : Array Edge} {E : ESt} {c0 : EV} {B : Bs} {Rd : Nat → Nat → Value → Prop} {e : Env} {a : Act} {w : World}
    (hx : exR T (eget E.t) (ehget E.h) op (fun c _ => some c) = some c0) (hga : Ga B Rd e (encE E) a w) (hd : Nat.blt d E.n = true) (hnd : ∀ c, op ≠ .defer c)
    (h : ∀ a', Ga B Rd e (encE ⟨E.n, (d, c0) :: E.t, E.h⟩) a' w → wpListIn Fence.wide 0 P ops.toArray Q rest a' w) : wpListIn Fence.wide 0 P ops.toArray Q (⟨some d, op, ty, pos, af, none⟩ :: rest) a w := by
  refine wpListIn_plain rfl fun K hK => ?_
  obtain ⟨c, us, hrs, hc⟩ := exR_ok hT hx
  cases hc
  obtain ⟨v, hv, hrun⟩ := hrs (encE E) (some d) ty pos af none (Sk.enc E) (Hk.enc E us) B Rd e a w hga
  refine ⟨fun f _ => trivial, ?_⟩
  rw [Oper.semAt_eq _ _ _ hnd, hrun w (Ext.refl w)]
  exact hK _ _ (h _ (hga.put (Nat.le_of_ble_eq_true hd) hv))
section
variable (l : Nat) (u : Value) (xs : List hdR.Val)
/-- what the iterator's frame is known to hold, ahead of a round -/
def bwE (i : Int) : ESt := ⟨19, [(3, .sc (.i .i64) i), (0, .v (.func (.yield l) #[] #[])), (1, .fp [.sc (.sl hdR) xs])], []⟩
def bwB (W : World) : Bs := ⟨W, fun _ => False, fun _ => none, fun _ => undef, []⟩
def bwEnv : Env := ⟨fun _ => none, fun _ => undef, fun _ => 0⟩
theorem bw_mine (W : World) (b : Nat) : (bwB W).mine b ↔ W.heap.size ≤ b := by simp [bwB, Bs.mine]
theorem bw_rd {Rd : Nat → Nat → Value → Prop} {W : World} {b o : Nat} {v : Value} : RDx (bwB W) Rd bwEnv [] W b o v ↔ W.cell? ⟨b, o, none⟩ = some v ∧ Rd b o v := by
  constructor
  · rintro ⟨h1, h2, _⟩
    refine ⟨h1, h2 fun hm => ?_⟩
    have := World.block_lt_of_cell? W _ h1
    rw [bw_mine] at hm
    simp only at this
    omega
  · rintro ⟨h1, h2⟩
    exact ⟨h1, fun _ => h2, fun k ob hk => by simp [hget] at hk⟩
theorem bw_sr {Rd : Nat → Nat → Value → Prop} (hgt : ∀ b o u, GT b o u → Rd b o u) {W : World} (hc : ∀ b o u, Rd b o u → W.cell? ⟨b, o, none⟩ = some u) : SR (bwB W) Rd bwEnv [] W := by
  refine ⟨⟨rfl, rfl, rfl, Nat.le_refl _, fun _ _ => rfl⟩, ⟨fun b o u hr => ⟨hc b o u hr, fun hm => ?_⟩, hgt⟩, fun k ob hk => by simp [hget] at hk, fun k ob b hk => by simp [hget] at hk, fun k k' ob ob' b hk => by simp [hget] at hk, fun k _ => ⟨rfl, rfl⟩⟩
  have := World.block_lt_of_cell? W _ (hc b o u hr)
  rw [bw_mine] at hm
  simp only at this
  omega
/-- the frame's slots, without the world -/
structure BwHead (Rd : Nat → Nat → Value → Prop) (i : Int) (a : Act) : Prop where
  d : a.defers = []
  n : a.tmps.size = 19
  y : a.tmps.getD 0 undef = .func (.yield l) #[] #[]
  p : VR Rd none (.fp [encS (.sl hdR) xs]) (a.tmps.getD 1 undef)
  i : a.tmps.getD 3 undef = .int .i64 i
theorem BwHead.ga {Rd : Nat → Nat → Value → Prop} (hgt : ∀ b o u, GT b o u → Rd b o u) {W : World} (hc : ∀ b o u, Rd b o u → W.cell? ⟨b, o, none⟩ = some u) {i : Int} {a : Act} (h : BwHead l xs Rd i a) : Ga (bwB W) Rd bwEnv (encE (bwE l xs i)) a W := by
  refine ⟨⟨h.n, (by show 19 ≤ 1000000; omega)⟩, h.d, bw_sr hgt hc, fun j => ?_⟩
  show VR _ _ (tget [(3, .v (.int .i64 i)), (0, .v (.func (.yield l) #[] #[])), (1, .fp [encS (.sl hdR) xs])] j) _
  simp only [tget]
  split
  · rename_i hj; subst hj; rw [h.i]; exact .v
  · split
    · rename_i hj; subst hj; rw [h.y]; exact .v
    · split
      · rename_i hj; subst hj; exact (h.p.mono fun b o u hr => bw_rd.2 ⟨hc b o u hr, hr⟩).some_of_none
      · exact .un
theorem BwHead.of {Rd : Nat → Nat → Value → Prop} {W : World} {i : Int} {a : Act} {E : ESt} (hg : Ga (bwB W) Rd bwEnv (encE E) a W) (hn : E.n = 19) (hh : E.h = []) (h0 : eget E.t 0 = .v (.func (.yield l) #[] #[])) (h1 : eget E.t 1 = .fp [.sc (.sl hdR) xs]) (h3 : eget E.t 3 = .sc (.i .i64) i) : BwHead l xs Rd i a := by
  have e0 := hg.tr 0
  have e1 := hg.tr 1
  have e3 := hg.tr 3
  rw [show (encE E).t = encT E.t from rfl, tget_enc] at e0 e1 e3
  rw [h0] at e0
  rw [h1] at e1
  rw [h3] at e3
  refine ⟨hg.d, hg.n.1.trans hn, e0.v_inv, ?_, e3.v_inv⟩
  have e2 := e1.none_of_fz rfl
  rw [show (encE E).h = [] by rw [show (encE E).h = encH E.h from rfl, hh]; rfl] at e2
  exact e2.mono fun b o u hr => (bw_rd.1 hr).2
end
/-- the place and the handle that stands there, aS the iterator hands them out -/
def bwV (q : Int × (Int × Int)) : Array Value := #[.int .i64 q.1, .agg #[.int .i64 q.2.1, .int .i64 q.2.2]]
theorem bwI_get {α : Type} (xs : List α) (j : Nat) (hj : j < xs.length) : (bwI xs)[j]? = some (((xs.length - 1 - j : Nat) : Int), xs[xs.length - 1 - j]'(by omega)) := by
  have hl : ((List.range xs.length).zip xs).length = xs.length := by simp
  unfold bwI
  rw [List.getElem?_map, List.getElem?_reverse (by rw [hl]; exact hj), hl]
  rw [List.getElem?_eq_getElem (by rw [hl]; omega)]
  simp
theorem bw_lt : ∀ {n j : Nat}, j < n → n - 1 - j < n := fun {n j} h => by omega
theorem bw_loop {l : Nat} {xs : List hdR.Val} {Rd : Nat → Nat → Value → Prop} (hgt : ∀ b o u, GT b o u → Rd b o u) (hlen : xs.length ≤ maxLen) (J : Nat → World → Prop) (hCl : ∀ j W, J j W → ∀ b o u, Rd b o u → W.cell? ⟨b, o, none⟩ = some u)
    (hy : ∀ j W1 x, ((bwI xs).map bwV)[j]? = some x → J j W1 → YieldAt Fence.wide 0 Try.prog l x W1 fun e W' => e = .returned (.bool true) ∧ J (j + 1) W')
    (Q : Exit → Act → World → Prop) (hQ : ∀ a W, J xs.length W → a.defers = [] → Q (.exit 0) a W) :
    ∀ (m j : Nat) (a : Act) (W : World), j ≤ xs.length → xs.length - j < m → J j W → BwHead l xs Rd ((xs.length : Int) - 1 - j) a → Code.roundsIn Fence.wide 0 Try.prog (codeAt [1, 0, 0] (bodyOf Try.f69)) Q m a W
  | 0, j, a, W, h1, h2, h3, h4 => by omega
  | m + 1, j, a, W, hj, hm, hJ, hh => by
    have hw : ∀ x : Int, -9223372036854775808 ≤ x → x ≤ 9223372036854775807 → IntKind.wrap .i64 x = x := fun x h1 h2 => by simp [IntKind.wrap, IntKind.bits, IntKind.signed]; omega
    have hmx : (xs.length : Int) ≤ 9223372036854775807 := by unfold maxLen at hlen; omega
    obtain ⟨I, hI⟩ : ∃ I : Int, I = (xs.length : Int) - 1 - j := ⟨_, rfl⟩
    rw [← hI] at hh
    have hga := hh.ga (W := W) l xs hgt (hCl j W hJ)
    show Code.wpIn Fence.wide 0 Try.prog (.seq (.seq (.region _ (List.toArray _) false) (.cond (.tmp 8) .skip (.exit 0))) (.seq (.block 1 (.seq (.region _ (List.toArray _) false) (.cond (.tmp 18) .ret .skip))) (.region _ (List.toArray _) false))) _ a W
    refine wpIn_seq (wpIn_seq (wpIn_region_lit ?_))
    refine step_ex tOk (E := bwE l xs I) (c0 := .sc (.i .i64) I) rfl hga rfl (fun c h => by cases h) fun a1 h1 => ?_
    refine step_ex tOk (c0 := .sc .b (decide ((0 : Int) ≤ I))) rfl h1 rfl (fun c h => by cases h) fun a2 h2 => ?_
    refine wpListIn_nil ?_
    have hc8 : a2.eval (.tmp 8) = .bool (decide ((0 : Int) ≤ I)) := by
      have := h2.ev (.tmp 8)
      exact this.v_inv
    by_cases hlast : j = xs.length
    · subst hlast
      refine wpIn_cond_false (by rw [hc8]; congr 1; simp; omega) (wpIn_exit ?_)
      exact hQ _ _ hJ h2.d
    have hjl : j < xs.length := by omega
    refine wpIn_cond_true (by rw [hc8]; congr 1; simp; omega) (wpIn_skip ?_)
    refine wpIn_seq (wpIn_block (wpIn_seq (wpIn_region_lit ?_)))
    have hi : I = ((xs.length - 1 - j : Nat) : Int) := by omega
    have hnth : nthI xs I = some (xs[xs.length - 1 - j]'(bw_lt hjl)) := by
      rw [hi]; simp only [nthI, Int.natCast_nonneg, if_true, Int.toNat_natCast]
      exact List.getElem?_eq_getElem (by omega)
    obtain ⟨x, hx⟩ : ∃ x, x = xs[xs.length - 1 - j]'(bw_lt hjl) := ⟨_, rfl⟩
    rw [← hx] at hnth
    refine step_ex tOk (c0 := .v (.func (.yield l) #[] #[])) rfl h2 rfl (fun c h => by cases h) fun a3 h3 => ?_
    refine step_ex tOk (c0 := .sc (.i .i64) I) rfl h3 rfl (fun c h => by cases h) fun a4 h4 => ?_
    refine step_ex tOk (c0 := .sc (.sl hdR) xs) rfl h4 rfl (fun c h => by cases h) fun a5 h5 => ?_
    refine step_ex tOk (c0 := .sc (.i .i64) I) rfl h5 rfl (fun c h => by cases h) fun a6 h6 => ?_
    refine step_ex tOk (c0 := .fp (splitC hdR x)) (by show obind (nthI xs I) _ = _; rw [hnth]; rfl) h6 rfl (fun c h => by cases h) fun a7 h7 => ?_
    refine step_ex tOk (c0 := valE hdR x) rfl h7 rfl (fun c h => by cases h) fun a8 h8 => ?_
    -- yield
    refine wpListIn_plain rfl fun K hK => ?_
    have e11 : a8.eval (.tmp 11) = .func (.yield l) #[] #[] := (h8.ev (.tmp 11)).v_inv
    have e12 : a8.eval (.tmp 12) = .int .i64 I := (h8.ev (.tmp 12)).v_inv
    have e16 : a8.eval (.tmp 16) = .agg #[.int .i64 x.1, .int .i64 x.2] := by
      have := h8.ev (.tmp 16)
      obtain ⟨us, hus, hlr⟩ := (show VR _ _ (.ag [.v (.int .i64 x.1), .v (.int .i64 x.2)]) _ from this).ag_inv
      rw [hus]
      match us, hlr with
      | [u1, u2], hlr =>
        have q1 := (hlr.2 0 _ _ rfl rfl).v_inv
        have q2 := (hlr.2 1 _ _ rfl rfl).v_inv
        rw [q1, q2]
      | [], hlr => have := hlr.1; simp at this
      | [_], hlr => have := hlr.1; simp at this
      | _ :: _ :: _ :: _, hlr => have := hlr.1; simp at this
    have hxy : ((bwI xs).map bwV)[j]? = some (bwV (I, x)) := by
      rw [List.getElem?_map, bwI_get xs j hjl, hi, hx]; rfl
    obtain ⟨fn, tmps, assign, body, hrun, hround⟩ := hy j W _ hxy hJ
    refine ⟨fun f _ => trivial, ?_⟩
    rw [Oper.semAt_eq _ _ _ (fun c h => by cases h)]
    have hex : ∀ (o : Oper) (ts : Array TypeId), o.op = .call ⟨.value (.tmp 11), #[.tmp 12, .tmp 16], ts⟩ → (execOp a8.eval o).run Try.prog W = .ok (.round l fn tmps assign body) W := fun o ts ho => by
      unfold execOp
      rw [ho]
      simp [resolve, e11, e12, e16, Deferred.ofValue, invoke]
      exact hrun
    rw [hex _ _ rfl]
    refine ⟨(fun h => by cases h), hround.mono ?_⟩
    rintro e W' ⟨rfl, hJ'⟩
    refine hK _ _ ?_
    -- in the world behind the round
    have hh8 : BwHead l xs Rd I a8 := BwHead.of l xs h8 rfl rfl rfl rfl rfl
    have hh9 : BwHead l xs Rd I (a8.put (some 17) (.bool true)) := by
      refine ⟨hh8.d, by simpa [Act.put] using hh8.n, ?_, ?_, ?_⟩
      · have := hh8.y; simpa [Act.put, Array.getD_eq_getD_getElem?, Array.getElem?_setIfInBounds] using this
      · have := hh8.p; simpa [Act.put, Array.getD_eq_getD_getElem?, Array.getElem?_setIfInBounds] using this
      · have := hh8.i; simpa [Act.put, Array.getD_eq_getD_getElem?, Array.getElem?_setIfInBounds] using this
    have hg9 := hh9.ga (W := W') l xs hgt (hCl _ W' hJ')
    have hg10 : Ga (bwB W') Rd bwEnv (encE ⟨19, (17, .sc .b true) :: (bwE l xs I).t, []⟩) (a8.put (some 17) (.bool true)) W' := by
      have hg8 := hh8.ga (W := W') l xs hgt (hCl _ W' hJ')
      exact hg8.put (d := 17) (c := .v (.bool true)) (by show 17 < 19; omega) .v
    refine step_ex tOk (c0 := .sc .b false) rfl hg10 rfl (fun c h => by cases h) fun a11 h11 => ?_
    refine wpListIn_nil ?_
    refine wpIn_cond_false ((h11.ev (.tmp 18)).v_inv) (wpIn_skip ?_)
    refine wpIn_region_lit ?_
    refine step_ex tOk (c0 := .sc (.i .i64) I) rfl h11 rfl (fun c h => by cases h) fun a12 h12 => ?_
    refine step_ex tOk (c0 := .sc (.i .i64) (IntKind.wrap .i64 (I - 1))) rfl h12 rfl (fun c h => by cases h) fun a13 h13 => ?_
    refine step_ex tOk (c0 := .sc (.i .i64) (IntKind.wrap .i64 (I - 1))) rfl h13 rfl (fun c h => by cases h) fun a14 h14 => ?_
    refine wpListIn_nil ?_
    refine bw_loop hgt hlen J hCl hy Q hQ m (j + 1) a14 W' (by omega) (by omega) hJ' ?_
    have := BwHead.of l xs (i := IntKind.wrap .i64 (I - 1)) h14 rfl rfl rfl rfl rfl
    rw [hw (I - 1) (by omega) (by omega)] at this
    rw [show (xs.length : Int) - 1 - ((j + 1 : Nat) : Int) = I - 1 by omega]
    exact this
theorem bw_yields (l : Nat) (xs : List hdR.Val) {Rd : Nat → Nat → Value → Prop} (hgt : ∀ b o u, GT b o u → Rd b o u) {u : Value} (hu : VR Rd none (.fp [encS (.sl hdR) xs]) u) (J : Nat → World → Prop) (W : World) (hCl : ∀ j W, J j W → ∀ b o u, Rd b o u → W.cell? ⟨b, o, none⟩ = some u)
    (hy : ∀ j W1 x, ((bwI xs).map bwV)[j]? = some x → J j W1 → YieldAt Fence.wide 0 Try.prog l x W1 fun e W' => e = .returned (.bool true) ∧ J (j + 1) W') (hJ : J 0 W) :
    CallsIn Fence.wide 0 Try.prog 69 #[.func (.yield l) #[] #[], u] W fun e W' => (∃ v, e = .returned v) ∧ J xs.length W' := by
  have hlen : xs.length ≤ maxLen := by
    cases hu with
    | fp us hl hc ha =>
      match us, hl, hc with
      | [v], hl, hc =>
        obtain ⟨a, cap, vs, _, _, _, _, h1, h2, _⟩ := (hc 0 _ v rfl rfl).sl_inv
        rw [List.length_map] at h1
        omega
      | [], hl, _ => simp at hl
      | _ :: _ :: _, hl, _ => simp at hl
  have hmx : (xs.length : Int) ≤ 9223372036854775807 := by unfold maxLen at hlen; omega
  refine callsIn_of_wp Try.func69 rfl trivial ?_
  obtain ⟨a0, ha0⟩ : ∃ a0 : Act, a0 = { tmps := #[.func (.yield l) #[] #[], u] ++ Array.replicate (Try.f69.ntmps - (#[.func (.yield l) #[] #[], u] : Array Value).size) undef, defers := [] } := ⟨_, rfl⟩
  rw [← ha0]
  have hnt : Try.f69.ntmps = 19 := by kernel_rfl
  rw [hnt] at ha0
  have hg0 : Ga (bwB W) Rd bwEnv (encE ⟨19, [(0, .v (.func (.yield l) #[] #[])), (1, .fp [.sc (.sl hdR) xs])], []⟩) a0 W := by
    have hs : a0.tmps.size = 19 := by rw [ha0]; simp
    have hd : a0.defers = [] := by rw [ha0]
    have hy0 : a0.tmps.getD 0 undef = .func (.yield l) #[] #[] := by rw [ha0]; simp [Array.getD_eq_getD_getElem?, Array.getElem?_append]
    have hp0 : a0.tmps.getD 1 undef = u := by rw [ha0]; simp [Array.getD_eq_getD_getElem?, Array.getElem?_append]
    clear ha0
    refine ⟨⟨hs, (by show 19 ≤ 1000000; omega)⟩, hd, bw_sr hgt (hCl 0 W hJ), fun j => ?_⟩
    show VR _ _ (tget [(0, .v (.func (.yield l) #[] #[])), (1, .fp [encS (.sl hdR) xs])] j) _
    simp only [tget]
    split
    · rename_i hj; subst hj; rw [hy0]; exact .v
    · split
      · rename_i hj; subst hj; rw [hp0]; exact (hu.mono fun b o u hr => bw_rd.2 ⟨hCl 0 W hJ b o u hr, hr⟩).some_of_none
      · exact .un
  show Code.wpIn Fence.wide 0 Try.prog (.seq (.region _ (List.toArray _) false) (.block 0 (.loop _))) _ a0 W
  refine wpIn_seq (wpIn_region_lit ?_)
  refine step_ex tOk (c0 := .sc (.sl hdR) xs) rfl hg0 rfl (fun c h => by cases h) fun a1 h1 => ?_
  refine step_ex tOk (c0 := .sc (.i .i64) (xs.length : Int)) rfl h1 rfl (fun c h => by cases h) fun a2 h2 => ?_
  refine step_ex tOk (c0 := .sc (.i .i64) (IntKind.wrap .i64 ((xs.length : Int) - 1))) rfl h2 rfl (fun c h => by cases h) fun a3 h3 => ?_
  refine step_ex tOk (c0 := .sc (.i .i64) (IntKind.wrap .i64 ((xs.length : Int) - 1))) rfl h3 rfl (fun c h => by cases h) fun a4 h4 => ?_
  refine wpListIn_nil ?_
  have hh := BwHead.of l xs (i := IntKind.wrap .i64 ((xs.length : Int) - 1)) h4 rfl rfl rfl rfl rfl
  rw [show IntKind.wrap .i64 ((xs.length : Int) - 1) = (xs.length : Int) - 1 - ((0 : Nat) : Int) by simp [IntKind.wrap, IntKind.bits, IntKind.signed]; omega] at hh
  refine wpIn_block (wpIn_loop_rounds (xs.length + 1) ?_)
  refine bw_loop hgt hlen J hCl hy _ (fun a W hJ hd => ?_) (xs.length + 1) 0 a4 W (by omega) (by omega) hJ hh
  exact ⟨hd, _, results_none rfl _ _ _, ⟨_, rfl⟩, hJ⟩
theorem bwOk : BwOk Try.prog 69 := by
  refine ⟨⟨_, Try.func69, by kernel_rfl, by kernel_rfl⟩, fun Rd us xs hgt hl => ⟨(bwI xs).map bwV, by rw [List.length_map, bwI_len], fun j it x hi hx => ?_, fun l J W hCl _ hy hJ => ?_⟩⟩
  · rw [List.getElem?_map, hi] at hx
    cases hx
    refine LR.cons .v (LR.cons (show VR Rd none (.ag [.v (.int .i64 it.2.1), .v (.int .i64 it.2.2)]) (.agg #[.int .i64 it.2.1, .int .i64 it.2.2]) from .ag [.int .i64 it.2.1, .int .i64 it.2.2] rfl fun j c u h1 h2 => ?_) LR.nil)
    match j with
    | 0 => simp at h1 h2; subst h1; subst h2; exact .v
    | 1 => simp at h1 h2; subst h1; subst h2; exact .v
    | j + 2 => simp at h1
  · match us, hl with
    | [u], hl =>
      have := bw_yields l xs hgt (hl.2 0 _ u rfl rfl) J W hCl hy hJ
      rw [List.length_map, bwI_len]
      exact this
    | [], hl => have := hl.1; simp at this
    | _ :: _ :: _, hl => have := hl.1; simp at this
theorem bwAll : ∀ q ∈ bwTab, BwOk Try.prog q := fun q hq => by
  have : q = 69 := by simpa [bwTab] using hq
  subst this
  exact bwOk
end Go.Proofs.Ytdahghkmejnlgaa
end
