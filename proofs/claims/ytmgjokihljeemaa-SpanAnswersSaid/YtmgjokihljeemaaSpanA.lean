/- What joins, told plainly: of each vertex the least one that it is joined to. -/
import Derived.Test.YtmgjokihljeemaaPlain
set_option linter.unusedVariables false
set_option linter.unusedSimpArgs false
namespace Go.Proofs.Ytmgjokihljeemaa
open Go Go.RowKit

/-- c tells, of each of n vertices, the least one that edges join it to -/
structure Cl (n : Nat) (l : List (Nat × Nat)) (c : Nat → Nat) : Prop where
  le : ∀ v, v < n → c v ≤ v
  fix : ∀ v, v < n → c (c v) = c v
  ed : ∀ e ∈ l, c e.1 = c e.2
  uni : ∀ f : Nat → Nat, (∀ e ∈ l, f e.1 = f e.2) → ∀ v, v < n → f (c v) = f v
theorem Cl.uniq {n : Nat} {l m : List (Nat × Nat)} {c d : Nat → Nat} (h : Cl n l c) (k : Cl n m d) (hm : ∀ e, e ∈ l ↔ e ∈ m) : ∀ v, v < n → c v = d v := fun v hv => by
  have h1 : c (d v) = c v := k.uni c (fun e he => h.ed e ((hm e).2 he)) v hv
  have h2 : d (c v) = d v := h.uni d (fun e he => k.ed e ((hm e).1 he)) v hv
  have h3 := h.le (d v) (Nat.lt_of_le_of_lt (k.le v hv) hv)
  have h4 := k.le (c v) (Nat.lt_of_le_of_lt (h.le v hv) hv)
  omega
theorem Cl.nil (n : Nat) : Cl n [] id := ⟨fun v _ => Nat.le_refl v, fun _ _ => rfl, (fun e h => by cases h), fun _ _ _ _ => rfl⟩
/-- two classes, joined -/
def jn (c : Nat → Nat) (u v : Nat) : Nat → Nat := fun x => if c x = max (c u) (c v) then min (c u) (c v) else c x
theorem jn_same {c : Nat → Nat} {u v : Nat} (h : c u = c v) : jn c u v = c := by
  funext x
  unfold jn
  rw [h]
  split
  · rename_i hx; omega
  · rfl
theorem Cl.jn {n : Nat} {l : List (Nat × Nat)} {c : Nat → Nat} (h : Cl n l c) {u v : Nat} (hu : u < n) (hv : v < n) : Cl n (l ++ [(u, v)]) (jn c u v) := by
  have fu := h.fix u hu
  have fv := h.fix v hv
  have fm : c (min (c u) (c v)) = min (c u) (c v) := by
    rcases Nat.le_total (c u) (c v) with q | q
    · rw [Nat.min_eq_left q]; exact fu
    · rw [Nat.min_eq_right q]; exact fv
  refine ⟨fun x hx => ?_, fun x hx => ?_, fun e he => ?_, fun f hf x hx => ?_⟩
  · have := h.le x hx
    unfold Proofs.Ytmgjokihljeemaa.jn
    split <;> omega
  · have := h.fix x hx
    by_cases q : c x = max (c u) (c v)
    · have e1 : Proofs.Ytmgjokihljeemaa.jn c u v x = min (c u) (c v) := if_pos q
      rw [e1]
      unfold Proofs.Ytmgjokihljeemaa.jn
      rw [fm]
      split <;> rfl
    · have e1 : Proofs.Ytmgjokihljeemaa.jn c u v x = c x := if_neg q
      rw [e1]
      unfold Proofs.Ytmgjokihljeemaa.jn
      rw [this, if_neg q]
  · rcases List.mem_append.1 he with he | he
    · unfold Proofs.Ytmgjokihljeemaa.jn; rw [h.ed e he]
    · simp only [List.mem_singleton] at he
      subst he
      have : ∀ y, (c y = c u ∨ c y = c v) → Proofs.Ytmgjokihljeemaa.jn c u v y = min (c u) (c v) := fun y hy => by
        unfold Proofs.Ytmgjokihljeemaa.jn
        split
        · rfl
        · omega
      rw [this u (.inl rfl), this v (.inr rfl)]
  · have h0 := h.uni f (fun e he => hf e (by simp [he]))
    have huv : f u = f v := hf (u, v) (by simp)
    have hm : f (min (c u) (c v)) = f (max (c u) (c v)) := by
      rcases Nat.le_total (c u) (c v) with q | q
      · rw [Nat.min_eq_left q, Nat.max_eq_right q, h0 u hu, h0 v hv, huv]
      · rw [Nat.min_eq_right q, Nat.max_eq_left q, h0 u hu, h0 v hv, huv]
    unfold Proofs.Ytmgjokihljeemaa.jn
    split
    · rename_i q; rw [hm, ← q, h0 x hx]
    · exact h0 x hx
/-- how many classes -/
def cnt (n : Nat) (c : Nat → Nat) : Nat := ((List.range n).filter fun v => c v == v).length
theorem filt_drop (p : Nat → Bool) (M : Nat) : ∀ n, ((List.range n).filter fun x => p x && x != M).length + (if M < n ∧ p M = true then 1 else 0) = ((List.range n).filter p).length
  | 0 => by simp
  | n + 1 => by
    have ih := filt_drop p M n
    rw [List.range_succ, List.filter_append, List.filter_append, List.length_append, List.length_append]
    by_cases q : n = M
    · subst q
      rw [if_neg (by omega)] at ih
      cases hp : p n <;> simp [hp] <;> omega
    · have e1 : (n != M) = true := by simpa using q
      have e2 : (M < n + 1 ∧ p M = true) ↔ (M < n ∧ p M = true) := by constructor <;> (rintro ⟨a, b⟩; exact ⟨by omega, b⟩)
      have e3 : ([n].filter fun x => p x && x != M) = [n].filter p := by simp [List.filter_cons, e1]
      rw [e3]
      simp only [e2]
      omega
theorem filt_congr {p q : Nat → Bool} {n : Nat} (h : ∀ x, x < n → p x = q x) : (List.range n).filter p = (List.range n).filter q :=
  List.filter_congr fun x hx => h x (List.mem_range.1 hx)
theorem cnt_congr {n : Nat} {c d : Nat → Nat} (h : ∀ v, v < n → c v = d v) : cnt n c = cnt n d := by
  unfold cnt
  rw [filt_congr fun x hx => by rw [h x hx]]
theorem cnt_jn {n : Nat} {l : List (Nat × Nat)} {c : Nat → Nat} (h : Cl n l c) {u v : Nat} (hu : u < n) (hv : v < n) : cnt n (jn c u v) + (if c u = c v then 0 else 1) = cnt n c := by
  by_cases q : c u = c v
  · rw [if_pos q, jn_same q]; rfl
  rw [if_neg q]
  have fu := h.fix u hu
  have fv := h.fix v hv
  have lu := h.le u hu
  have lv := h.le v hv
  have hM : c (max (c u) (c v)) = max (c u) (c v) := by
    rcases Nat.le_total (c u) (c v) with k | k
    · rw [Nat.max_eq_right k]; exact fv
    · rw [Nat.max_eq_left k]; exact fu
  have hm : c (min (c u) (c v)) = min (c u) (c v) := by
    rcases Nat.le_total (c u) (c v) with k | k
    · rw [Nat.min_eq_left k]; exact fu
    · rw [Nat.min_eq_right k]; exact fv
  have := filt_drop (fun v => c v == v) (max (c u) (c v)) n
  rw [if_pos ⟨by omega, by simpa using hM⟩] at this
  unfold cnt
  rw [← this]
  congr 2
  refine filt_congr fun x hx => ?_
  have hlt : min (c u) (c v) < max (c u) (c v) := by omega
  unfold jn
  by_cases k : c x = max (c u) (c v)
  · rw [if_pos k]
    have : ¬ (min (c u) (c v) = x) := fun e => by rw [← e, hm] at k; omega
    by_cases k2 : x = max (c u) (c v)
    · simp [k2]; omega
    · have k3 : ¬ max (c u) (c v) = x := fun e => k2 e.symm
      rw [k, beq_eq_false_iff_ne.2 this, beq_eq_false_iff_ne.2 k3]; rfl
  · rw [if_neg k]
    by_cases k2 : x = max (c u) (c v)
    · exact absurd (by rw [k2]; exact hM) k
    · simp [k2]
theorem cnt_id (n : Nat) : cnt n id = n := by
  unfold cnt
  rw [List.filter_eq_self.2 (fun x _ => by simp)]
  exact List.length_range
/-- what edges join -/
def clo (l : List (Nat × Nat)) : Nat → Nat := l.foldl (fun c e => jn c e.1 e.2) id
theorem clo_snoc (l : List (Nat × Nat)) (e : Nat × Nat) : clo (l ++ [e]) = jn (clo l) e.1 e.2 := by simp [clo]
def EdOk (n : Nat) (l : List (Nat × Nat)) : Prop := ∀ e ∈ l, e.1 < n ∧ e.2 < n
theorem rev_ind {α : Type} {p : List α → Prop} (h0 : p []) (h1 : ∀ l x, p l → p (l ++ [x])) (l : List α) : p l := by
  have : ∀ m : List α, p m.reverse := fun m => by
    induction m with
    | nil => exact h0
    | cons x m ih => rw [List.reverse_cons]; exact h1 _ _ ih
  have h := this l.reverse
  rwa [List.reverse_reverse] at h
theorem EdOk.app {n : Nat} {l m : List (Nat × Nat)} : EdOk n (l ++ m) ↔ EdOk n l ∧ EdOk n m := by
  unfold EdOk
  constructor
  · exact fun h => ⟨fun e he => h e (by simp [he]), fun e he => h e (by simp [he])⟩
  · rintro ⟨h, k⟩ e he
    rcases List.mem_append.1 he with he | he
    · exact h e he
    · exact k e he
theorem clo_ok {n : Nat} : ∀ (l : List (Nat × Nat)), EdOk n l → Cl n l (clo l) := by
  refine rev_ind (fun _ => Cl.nil n) fun l x ih h => ?_
  have h2 := EdOk.app.1 h
  have h3 := h2.2 x (by simp)
  rw [clo_snoc]
  exact (ih h2.1).jn h3.1 h3.2
/-- does an edge join? -/
def joinsB (l : List (Nat × Nat)) (e : Nat × Nat) : Bool := clo l e.1 != clo l e.2
def boolsFrom (p : List (Nat × Nat)) : List (Nat × Nat) → List Bool
  | [] => []
  | e :: l => joinsB p e :: boolsFrom (p ++ [e]) l
def chosenFrom (p : List (Nat × Nat)) : List (Nat × Nat) → List (Nat × Nat)
  | [] => []
  | e :: l => if joinsB p e then e :: chosenFrom (p ++ [e]) l else chosenFrom (p ++ [e]) l
def chosen (l : List (Nat × Nat)) : List (Nat × Nat) := chosenFrom [] l
theorem chosenFrom_snoc (x : Nat × Nat) : ∀ (l p : List (Nat × Nat)), chosenFrom p (l ++ [x]) = chosenFrom p l ++ (if joinsB (p ++ l) x then [x] else [])
  | [], p => by
    simp only [List.nil_append, chosenFrom, List.append_nil]
  | e :: l, p => by
    have ih := chosenFrom_snoc x l (p ++ [e])
    simp only [List.cons_append, chosenFrom, ih, List.append_assoc, List.singleton_append]
    split <;> rfl
theorem chosen_snoc (l : List (Nat × Nat)) (x : Nat × Nat) : chosen (l ++ [x]) = chosen l ++ (if joinsB l x then [x] else []) := by
  simp [chosen, chosenFrom_snoc]
theorem clo_chosen : ∀ l : List (Nat × Nat), clo (chosen l) = clo l := by
  refine rev_ind rfl fun l x ih => ?_
  rw [chosen_snoc, clo_snoc]
  by_cases q : joinsB l x = true
  · rw [if_pos q, clo_snoc, ih]
  · rw [if_neg q, List.append_nil, ih]
    refine (jn_same ?_).symm
    simpa [joinsB] using q
theorem chosen_sub : ∀ l : List (Nat × Nat), ∀ e ∈ chosen l, e ∈ l := by
  refine rev_ind (fun e h => h) fun l x ih => ?_
  intro e he
  rw [chosen_snoc] at he
  rcases List.mem_append.1 he with he | he
  · exact List.mem_append_left _ (ih e he)
  · split at he
    · exact List.mem_append_right _ he
    · cases he
theorem cnt_clo_snoc {n : Nat} {l : List (Nat × Nat)} {x : Nat × Nat} (h : EdOk n (l ++ [x])) : cnt n (clo (l ++ [x])) + (if joinsB l x then 1 else 0) = cnt n (clo l) := by
  have h2 := EdOk.app.1 h
  have h3 := h2.2 x (by simp)
  have := cnt_jn (clo_ok l h2.1) h3.1 h3.2
  rw [clo_snoc, ← this]
  unfold joinsB
  by_cases q : clo l x.1 = clo l x.2
  · simp [q]
  · simp [q]
theorem cnt_chosen {n : Nat} : ∀ (l : List (Nat × Nat)), EdOk n l → cnt n (clo l) + (chosen l).length = n := by
  refine rev_ind (fun _ => by simp [clo, chosen, chosenFrom, cnt_id]) fun l x ih h => ?_
  have h1 := ih (EdOk.app.1 h).1
  have h2 := cnt_clo_snoc h
  rw [chosen_snoc, List.length_append]
  by_cases q : joinsB l x = true
  · rw [if_pos q] at h2 ⊢; simp; omega
  · rw [if_neg q] at h2 ⊢; simp; omega
theorem cnt_ge {n : Nat} (l : List (Nat × Nat)) (h : EdOk n l) : n ≤ cnt n (clo l) + l.length := by
  have h1 := cnt_chosen l h
  have h2 : ∀ l p : List (Nat × Nat), (chosenFrom p l).length ≤ l.length := fun l => by
    induction l with
    | nil => intro p; exact Nat.le_refl _
    | cons e l ih =>
      intro p
      have := ih (p ++ [e])
      rw [chosenFrom]
      split
      · simp; omega
      · simp; omega
  have := h2 l []
  unfold chosen at h1
  omega
theorem cnt_perm {n : Nat} {l m : List (Nat × Nat)} (h : EdOk n l) (hm : ∀ e, e ∈ l ↔ e ∈ m) : cnt n (clo l) = cnt n (clo m) :=
  cnt_congr ((clo_ok l h).uniq (clo_ok m fun e he => h e ((hm e).2 he)) hm)
theorem clo_perm {n : Nat} {l m : List (Nat × Nat)} (h : EdOk n l) (hm : ∀ e, e ∈ l ↔ e ∈ m) : ∀ v, v < n → clo l v = clo m v :=
  (clo_ok l h).uniq (clo_ok m fun e he => h e ((hm e).2 he)) hm
/-- none can be left out -/
theorem few_out {n : Nat} {l : List (Nat × Nat)} (h : EdOk n l) {i : Nat} (hi : i < (chosen l).length) : cnt n (clo ((chosen l).take i ++ (chosen l).drop (i + 1))) = cnt n (clo l) + 1 := by
  obtain ⟨x, hx⟩ : ∃ x, (chosen l)[i]? = some x := ⟨_, List.getElem?_eq_getElem hi⟩
  have hs : EdOk n (chosen l) := fun e he => h e (chosen_sub l e he)
  have e1 : chosen l = (chosen l).take i ++ x :: (chosen l).drop (i + 1) := by rw [← drop_at hx, List.take_append_drop]
  have hm : ∀ e, e ∈ chosen l ↔ e ∈ (chosen l).take i ++ (chosen l).drop (i + 1) ++ [x] := fun e => by
    rw [List.append_assoc, List.mem_append, List.mem_append]
    constructor
    · intro he
      rw [e1, List.mem_append, List.mem_cons] at he
      rcases he with a | a | a
      · exact .inl a
      · exact .inr (.inr (by simp [a]))
      · exact .inr (.inl a)
    · intro he
      rw [e1, List.mem_append, List.mem_cons]
      rcases he with a | a | a
      · exact .inl a
      · exact .inr (.inr a)
      · exact .inr (.inl (by simpa using a))
  have h1 := cnt_perm hs hm
  rw [clo_chosen] at h1
  have hs2 : EdOk n ((chosen l).take i ++ (chosen l).drop (i + 1) ++ [x]) := fun e he => hs e ((hm e).2 he)
  have h2 := cnt_clo_snoc hs2
  have h3 := cnt_ge _ (EdOk.app.1 hs2).1
  have h4 := cnt_chosen l h
  rw [List.length_append, List.length_take, List.length_drop] at h3
  split at h2 <;> omega
theorem more_len {n : Nat} {l : List (Nat × Nat)} {x : Nat × Nat} (h : EdOk n (l ++ [x])) : (chosen (l ++ [x])).length + cnt n (clo (l ++ [x])) = n ∧ (chosen (x :: l)).length = (chosen (l ++ [x])).length := by
  have h1 := cnt_chosen _ h
  have hm : ∀ e, e ∈ l ++ [x] ↔ e ∈ x :: l := fun e => by simp [or_comm]
  have h2 := cnt_chosen (n := n) (x :: l) fun e he => h e ((hm e).2 he)
  have h3 := cnt_perm h hm
  omega
end Go.Proofs.Ytmgjokihljeemaa
