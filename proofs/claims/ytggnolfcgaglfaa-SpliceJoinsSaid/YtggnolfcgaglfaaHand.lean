/- Contracts that are shown by hand: slices.Grow (of nil) and slices.Insert, both at []int, out of the library's summaries. -/
import Derived.Test.YtggnolfcgaglfaaTys
import Derived.Shelf.Spec.SlicesGrow
import Derived.Shelf.Spec.SlicesInsert
import Derived.Shelf.Spec.SlicesInsertGrow
set_option linter.unusedVariables false
set_option linter.unusedSimpArgs false
set_option maxRecDepth 100000
namespace Go.Proofs.Ytggnolfcgaglfaa
open Go Go.RowKit Go.Lib Go.Shelf

def rhoI : Ren := ⟨fun | 21 => 48 | 27 => 61 | 28 => 62 | 35 => 67 | 39 => 68 | x => x,
  fun | 0 => 0 | 3 => 3 | 4 => 4 | 22 => 22 | x => x, fun x => x⟩
def rhoG : Ren := ⟨fun | 4 => 65 | x => x, fun | 0 => 0 | 3 => 3 | 4 => 4 | 9 => 9 | 20 => 20 | 22 => 22 | 25 => 3 | x => x, fun x => x⟩
theorem agg_of {P : Program} {t : TypeId} {d : TypeDesc} (h : P.underlying t = some d) (hd : (match d with | .struct _ => true | .array _ _ => true | _ => false) = false) : ∀ w, (isAgg t).run P w = .ok false w := fun w => by
  cases d <;> simp [isAgg, run_underlying h] at hd ⊢
theorem layI : Lays2.n21 Try.prog rhoI where
  mixed := mixed
  f21 := by kernel_rfl
  f27 := by kernel_rfl
  f28 := by kernel_rfl
  f35 := by kernel_rfl
  f39 := by kernel_rfl
  t0 := by kernel_rfl
  a0 := fun w => by kernel_rfl
  z0 := fun w => by kernel_rfl
  v0 := fun w => by kernel_rfl
  t3 := by kernel_rfl
  a3 := fun w => by kernel_rfl
  z3 := fun w => by kernel_rfl
  v3 := fun w => by kernel_rfl
  t4 := by kernel_rfl
  a4 := fun w => by kernel_rfl
  z4 := fun w => by kernel_rfl
  v4 := fun w => by kernel_rfl
  t22 := by kernel_rfl
  a22 := fun w => by kernel_rfl
  z22 := fun w => by kernel_rfl
  v22 := fun w => by kernel_rfl
  i3 := by kernel_rfl
theorem layG : Lays8.n4 Try.prog rhoG where
  mixed := mixed
  f4 := ⟨ "slices.Grow[[]int,int]", by kernel_rfl, by kernel_rfl⟩
  t0 := by kernel_rfl
  a0 := fun w => by kernel_rfl
  z0 := fun w => by kernel_rfl
  v0 := fun w => by kernel_rfl
  t3 := by kernel_rfl
  a3 := fun w => by kernel_rfl
  z3 := fun w => by kernel_rfl
  v3 := fun w => by kernel_rfl
  t4 := by kernel_rfl
  a4 := fun w => by kernel_rfl
  z4 := fun w => by kernel_rfl
  v4 := fun w => by kernel_rfl
  t9 := by kernel_rfl
  a9 := fun w => by kernel_rfl
  z9 := fun w => by kernel_rfl
  v9 := fun w => by kernel_rfl
  t20 := by kernel_rfl
  a20 := fun w => by kernel_rfl
  z20 := fun w => by kernel_rfl
  v20 := fun w => by kernel_rfl
  t22 := by kernel_rfl
  a22 := fun w => by kernel_rfl
  z22 := fun w => by kernel_rfl
  v22 := fun w => by kernel_rfl

/-- one object is left -/
theorem sr_one {B : Bs} {Rd : Nat → Nat → Value → Prop} {e : Env} {H0 : Hp} {w w' : World} (hs : SR B Rd e H0 w) (hext : Bx B w') (nb : Option Nat) (s : Value) (ob : Ob) (hb : ∀ b, nb = some b → B.mine b ∧ b < w'.heap.size)
    (hob : ∀ Rd', OR Rd' (e.upd 0 nb s 0) w' 0 ob) : SR B Rd (e.upd 0 nb s 0) [(0, some ob)] w' := by
  have hg : ∀ k ob', hget [(0, some ob)] k = some ob' → k = 0 ∧ ob' = ob := fun k ob' h => by
    by_cases hk : k = 0
    · subst hk; rw [hget_same] at h; exact ⟨rfl, (Option.some.inj h).symm⟩
    · rw [hget_other hk] at h; cases h
  refine ⟨hext, hs.good, fun k ob' h => ?_, fun k ob' b h hb' => ?_, fun k k' ob1 ob2 b h h' _ _ => ?_, fun k hk => ?_⟩
  · obtain ⟨rfl, rfl⟩ := hg k ob' h; exact hob _
  · obtain ⟨rfl, rfl⟩ := hg k ob' h
    exact hb b (by rw [Env.upd_blk] at hb'; exact hb')
  · rw [(hg _ _ h).1, (hg _ _ h').1]
  · rw [Env.upd_blk' (by omega), Env.upd_sv' (by omega)]; exact hs.pin k hk
theorem flat_ints (xs : List Int) : (xs.map fun x => ([.v (.int .i64 x)] : List AV)).flatten = xs.map fun x => .v (.int .i64 x) := by
  induction xs with
  | nil => rfl
  | cons x xs ih => simp [ih]
theorem or_ints {e : Env} {w : World} {Rd : Nat → Nat → Value → Prop} {b cap : Nat} {t : TypeId} {cur : Array Value} {xs : List Int} (hw : w.heap[b]? = some (.cells cur t (0, 0))) (hl : xs.length ≤ cap) (hcap : cap ≤ maxLen) (hc : cur.size = cap)
    (ht : cur.toList.take xs.length = xs.map (Value.int .i64)) : OR Rd (e.upd 0 (some b) (.slice (some ⟨b, 0, none⟩) xs.length cap) 0) w 0 (.arr t 1 (xs.map fun x => [.v (.int .i64 x)]) true) := by
  have hf := flat_ints xs
  refine ⟨fun r hr => ?_, fun c hc => ?_, fun _ => Env.upd_lent, .inr ⟨b, cap, cur, Env.upd_blk, by rw [Env.upd_sv, List.length_map], by rw [List.length_map]; exact hl, hcap, hw, by rw [hc, Nat.mul_one], ?_, by rw [Env.upd_lent]; exact Nat.zero_le _⟩⟩
  · obtain ⟨x, _, rfl⟩ := List.mem_map.1 hr; rfl
  · rw [hf] at hc
    obtain ⟨x, _, rfl⟩ := List.mem_map.1 hc; rfl
  · rw [hf, List.length_map, ht]
    refine ⟨by simp, fun j c u h1 h2 => ?_⟩
    rw [List.getElem?_map] at h1 h2
    cases hx : xs[j]? with
    | none => rw [hx] at h1; cases h1
    | some x =>
      rw [hx] at h1 h2
      cases h1; cases h2
      exact .v
theorem lr_ints {Rd : Nat → Nat → Value → Prop} {xs : List Int} {us : List Value} (h : LR (VR Rd none) (xs.map fun x => ([.v (.int .i64 x)] : List AV)).flatten us) : us = xs.map (Value.int .i64) := by
  have hf := flat_ints xs
  rw [hf] at h
  refine List.ext_getElem? fun j => ?_
  by_cases hj : j < xs.length
  · have h1 : (xs.map fun x => (.v (.int .i64 x) : AV))[j]? = some (.v (.int .i64 xs[j])) := by simp [hj]
    have hl := h.1
    have h2 : us[j]? = some us[j]! := by simp at hl; simp [show j < us.length by omega]
    have := (h.2 j _ _ h1 h2).v_inv
    rw [h2, this]; simp [hj]
  · have hl := h.1
    rw [List.getElem?_eq_none (by simp at hl; omega), List.getElem?_eq_none (by simp; omega)]
theorem heap_cells {b : Nat} {t : TypeId} : ∀ (vs : List Value) (o : Nat) (w : World) (cur : Array Value), w.heap[b]? = some (.cells cur t (0, 0)) → o + vs.length ≤ cur.size →
    (w.setCells b o vs).heap[b]? = some (.cells (cur.toList.take o ++ vs ++ cur.toList.drop (o + vs.length)).toArray t (0, 0))
  | [], o, w, cur, h, _ => by rw [World.setCells, h]; simp
  | v :: r, o, w, cur, h, hl => by
    simp only [List.length_cons] at hl
    have h1 := heap_setCell_same w b o cur t v h
    rw [World.setCells, heap_cells r (o + 1) _ _ h1 (by simp; omega)]
    congr 3
    obtain ⟨A, x, C, hA, hlA⟩ : ∃ (A : List Value) (x : Value) (C : List Value), cur.toList = A ++ x :: C ∧ A.length = o := by
      refine ⟨cur.toList.take o, cur[o], cur.toList.drop (o + 1), ?_, by simp; omega⟩
      have := List.drop_eq_getElem_cons (l := cur.toList) (i := o) (by simp; omega)
      rw [Array.getElem_toList] at this
      rw [← this, List.take_append_drop]
    have e : (cur.setIfInBounds o v).toList = A ++ v :: C := by
      rw [Array.toList_setIfInBounds, hA, List.set_append_right _ _ (by omega), show o - A.length = 0 by omega]; rfl
    rw [e, hA]
    have t1 : (A ++ v :: C).take (o + 1) = A ++ [v] := by rw [show A ++ v :: C = (A ++ [v]) ++ C by simp, List.take_left' (by simp; omega)]
    have t2 : (A ++ v :: C).drop (o + 1 + r.length) = C.drop r.length := by rw [← List.drop_drop, show A ++ v :: C = (A ++ [v]) ++ C by simp, List.drop_left' (by simp; omega)]
    have t3 : (A ++ x :: C).take o = A := List.take_left' hlA
    have t4 : (A ++ x :: C).drop (o + (r.length + 1)) = C.drop r.length := by rw [show o + (r.length + 1) = (o + 1) + r.length by omega, ← List.drop_drop, show A ++ x :: C = (A ++ [x]) ++ C by simp, List.drop_left' (by simp; omega)]
    rw [t1, t2, t3, List.length_cons, t4]
    simp
theorem bx_cells {B : Bs} {b : Nat} (hb : B.mine b) : ∀ (vs : List Value) (o : Nat) (w : World), Bx B w → Bx B (w.setCells b o vs)
  | [], o, w, h => h
  | v :: r, o, w, h => bx_cells hb r (o + 1) _ (h.setCell hb v)
theorem size_cells {b : Nat} : ∀ (vs : List Value) (o : Nat) (w : World), (w.setCells b o vs).heap.size = w.heap.size
  | [], o, w => rfl
  | v :: r, o, w => by rw [World.setCells, size_cells r]; simp [World.setCell]
theorem heap_new (w : World) (o : Obj) : (w.alloc o).heap[w.heap.size]? = some o := by
  unfold World.alloc
  exact Array.getElem?_push_size
theorem cells_at {w : World} {b : Nat} {t : TypeId} {fr : Nat × Nat} {cur : Array Value} {us : List Value} (h : w.heap[b]? = some (.cells cur t fr)) (ht : cur.toList.take us.length = us) : ∀ (j : Nat) v, us[j]? = some v → w.cell? ⟨b, j, none⟩ = some v := fun j v hj => by
  have hlt := (List.getElem?_eq_some_iff.1 hj).1
  rw [← ht, List.getElem?_take] at hj
  rw [if_pos hlt, Array.getElem?_toList] at hj
  rw [cell_of_row w b j cur t fr h]
  obtain ⟨h1, h2⟩ := Array.getElem?_eq_some_iff.1 hj
  simp [h1, h2]
/-- what is given back: one row of numbers -/
theorem gives_row {B : Bs} {Rd : Nat → Nat → Value → Prop} {e : Env} {H0 : Hp} {w w' : World} (hs : SR B Rd e H0 w) (hext : Bx B w') {b cap : Nat} {t : TypeId} {cur : Array Value} {xs : List Int} (hw : w'.heap[b]? = some (.cells cur t (0, 0))) (hl : xs.length ≤ cap) (hcap : cap ≤ maxLen) (hc : cur.size = cap)
    (ht : cur.toList.take xs.length = xs.map (Value.int .i64)) (hb : B.mine b) :
    ∃ v e', (Ending.returned (.slice (some ⟨b, 0, none⟩) xs.length cap) : Ending) = .returned v ∧ SR B Rd e' [(0, some (.arr t 1 (xs.map fun x => [.v (.int .i64 x)]) true))] w' ∧ VR (RDx B Rd e' [(0, some (.arr t 1 (xs.map fun x => [.v (.int .i64 x)]) true))] w') (some e') (.ow 0) v := by
  have hlt : b < w'.heap.size := (Array.getElem?_eq_some_iff.1 hw).1
  refine ⟨_, e.upd 0 (some b) (.slice (some ⟨b, 0, none⟩) xs.length cap) 0, rfl, sr_one hs hext _ _ _ (fun b' h => by cases h; exact ⟨hb, hlt⟩) (fun Rd' => or_ints hw hl hcap hc ht), ?_⟩
  have := @VR.ow (RDx B Rd (e.upd 0 (some b) (.slice (some ⟨b, 0, none⟩) xs.length cap) 0) [(0, some (.arr t 1 (xs.map fun x => [.v (.int .i64 x)]) true))] w') (e.upd 0 (some b) (.slice (some ⟨b, 0, none⟩) xs.length cap) 0) 0
  rwa [Env.upd_sv] at this

theorem vsz : (Value.int .i64 0).cells.size = 1 := rfl
/-- slices.Grow of nil -/
noncomputable def m_slices_Grow_Lint_int (N : Nat) (n : Int) : Option Unit := cond (decide (0 ≤ n ∧ n ≤ 1099511627776)) (some ()) none
noncomputable def c_slices_Grow_Lint_int (N : Nat) : Ctr := ⟨65, [.k .nil, .h (.i .i64)], [], [.i .i64], Unit, m_slices_Grow_Lint_int N, fun _ _ k => k (.ow 0) [(0, some (.arr 3 (.i .i64) [] true))], true, true⟩
theorem grow_rcx (n : Nat) (hn : n ≤ 1099511627776) : RCX Try.prog 65 [] [.sl true 0 [], .v (.int .i64 n)] [(0, some (.arr 3 1 [] true))] (.ow 0) := by
  refine ⟨⟨_, Try.func65, by kernel_rfl, by kernel_rfl⟩, fun B Rd e w vs hs hv => ?_⟩
  obtain ⟨v0, v1, rfl⟩ : ∃ v0 v1, vs = [v0, v1] := by
    match vs, hv.1 with
    | [a, b], _ => exact ⟨a, b, rfl⟩
  obtain ⟨a, cap, us, rfl, _, _, _, _, _, htt, _⟩ := (hv.2 0 _ v0 rfl rfl).sl_inv
  obtain rfl := (hv.2 1 _ v1 rfl rfl).v_inv
  obtain rfl := htt rfl
  by_cases h0 : n = 0
  · subst h0
    refine (Any8.slices_Grow_room layG a 0 0 0 w (by omega) (by omega) (by omega) (by omega)).mono fun x w' hx => ?_
    obtain ⟨rfl, rfl⟩ := hx
    refine ⟨_, e.upd 0 none (.slice a 0 0) 0, rfl, sr_one hs hs.ext _ _ _ (fun b h => by cases h) (fun Rd' => ⟨(fun r hr => by cases hr), (fun c hc => by cases hc), (fun _ => Env.upd_lent), .inl ⟨rfl, Env.upd_blk, a, Env.upd_sv⟩⟩), ?_⟩
    have := @VR.ow (RDx B Rd (e.upd 0 none (.slice a 0 0) 0) [(0, some (.arr 3 1 [] true))] w') (e.upd 0 none (.slice a 0 0) 0) 0
    rwa [Env.upd_sv] at this
  · obtain ⟨i0, hi0, hz0, hzs, hzb⟩ := info_parts layI.i3
    refine (Any8.slices_Grow_grow layG i0 _ hi0 hz0 (by omega) a 0 0 n [] w (by omega) (by omega) (by rw [hzb]; omega) (by omega) (by simp) (fun _ => rfl) (fun _ _ j v hj => by simp at hj)).mono fun x w' hx => ?_
    obtain ⟨rfl, rfl⟩ := hx
    have hnc := grownCap_ge w (0 + n) 0 (rhoG.t 25)
    have hnc' := grownCap_ge w n 0 (rhoG.t 25)
    exact gives_row (xs := []) hs (hs.ext.drew.alloc _) (heap_new w.drew _) (by simp) (grownCap_le_maxLen w (0 + n) 0 _ (by unfold maxLen; omega)) (by simp [size_zeroCells, vsz]; omega) rfl (hs.ext.mine (Nat.le_refl _))
theorem grow_dom (x : Int) (y : Unit) (h : cond (decide (0 ≤ x ∧ x ≤ 1099511627776)) (some ()) none = some y) : ∃ n : Nat, x = (n : Int) ∧ n ≤ 1099511627776 := by
  by_cases h2 : 0 ≤ x ∧ x ≤ 1099511627776
  · exact ⟨x.toNat, by omega, by omega⟩
  · rw [decide_eq_false h2] at h; cases h
theorem c_slices_Grow_Lint_int_ok (N : Nat) : (c_slices_Grow_Lint_int N).ok Try.prog := by
  refine ⟨fun _ => rfl, fun x y hxy => ⟨.ow 0, _, fun R k => rfl, (fun h => by cases h), fun _ => ⟨rfl, rfl⟩, ?_⟩⟩
  obtain ⟨n, hn, hb⟩ := grow_dom x y hxy
  have := grow_rcx n hb
  rw [← hn] at this
  exact this

/-- slices.Insert of an own row into an own row -/
noncomputable def insI (xs : List Int) (i : Int) (ys : List Int) : List Int := xs.take i.toNat ++ ys ++ xs.drop i.toNat
noncomputable def m_slices_Insert_Lint_int_o_o (N : Nat) (x : Int × List Int × List Int) : Option (List Int) := cond (decide (0 ≤ x.1 ∧ x.1 ≤ (x.2.1.length : Int) ∧ 0 < x.2.1.length ∧ 0 < x.2.2.length ∧ x.2.1.length + x.2.2.length ≤ 1099511627776)) (some (insI x.2.1 x.1 x.2.2)) none
noncomputable def c_slices_Insert_Lint_int_o_o (N : Nat) : Ctr := ⟨48, [.k (.ow 4294967296), .h (.i .i64), .k (.ow 4294967297)], [(4294967296, .arr 3 (.i .i64) true), (4294967297, .arr 3 (.i .i64) true)], [.i .i64, .sl (.i .i64), .sl (.i .i64)], List Int, m_slices_Insert_Lint_int_o_o N, fun y _ k => k (.ow 0) [(0, some (.arr 3 (.i .i64) y true))], true, true⟩
theorem take_len {α : Type} {a b : List α} : (a ++ b).take a.length = a := List.take_left
theorem tk_shift {α : Type} (U X Y : List α) (i n k : Nat) (hX : U.take n = X) (hi : i ≤ n) (hU : n + Y.length ≤ U.length) (hk : k = n + Y.length) :
    ((U.take (i + Y.length) ++ X.drop i ++ U.drop (i + Y.length + (X.drop i).length)).take i ++ Y ++ (U.take (i + Y.length) ++ X.drop i ++ U.drop (i + Y.length + (X.drop i).length)).drop (i + Y.length)).take k = X.take i ++ Y ++ X.drop i := by
  have hl : X.length = n := by rw [← hX, List.length_take]; omega
  have e1 : (U.take (i + Y.length) ++ X.drop i ++ U.drop (i + Y.length + (X.drop i).length)).take i = X.take i := by
    rw [List.append_assoc, List.take_append_of_le_length (by simp; omega), List.take_take, ← hX, List.take_take]
    congr 1; omega
  have e2 : (U.take (i + Y.length) ++ X.drop i ++ U.drop (i + Y.length + (X.drop i).length)).drop (i + Y.length) = X.drop i ++ U.drop (i + Y.length + (X.drop i).length) := by
    rw [List.append_assoc, List.drop_left' (by simp; omega)]
  rw [e1, e2, ← List.append_assoc, List.take_left' (by simp; omega)]
theorem tk_end {α : Type} (U X Y R : List α) (n k : Nat) (hX : U.take n = X) (hl : X.length = n) (hk : k = n + Y.length) : (U.take n ++ Y ++ R).take k = X.take n ++ Y ++ X.drop n := by
  rw [hX, List.take_left' (by simp; omega), List.take_of_length_le (by omega), List.drop_eq_nil_of_le (by omega), List.append_nil]
theorem tk_new {α : Type} (X Y Z R : List α) (n k : Nat) (hl : X.length = n) (hk : k = n + Y.length) : (X ++ Y ++ R).take k = X.take n ++ Y ++ X.drop n := by
  rw [List.take_left' (by simp; omega), List.take_of_length_le (by omega), List.drop_eq_nil_of_le (by omega), List.append_nil]
theorem tk_grow {α : Type} (X Y Z R1 R2 : List α) (i n k : Nat) (hl : X.length = n) (hi : i ≤ n) (hk : k = n + Y.length) :
    (((X.take i ++ Z).take i ++ Y ++ R1).take (i + Y.length) ++ X.drop i ++ R2).take k = X.take i ++ Y ++ X.drop i := by
  rw [List.take_left' (l₁ := X.take i) (by simp; omega), List.take_left' (l₁ := X.take i ++ Y) (by simp; omega), List.take_left' (by simp; omega)]
theorem ins_rcx (xs ys : List Int) (i : Nat) (hi : i ≤ xs.length) (h0 : 0 < xs.length) (h1 : 0 < ys.length) (h2 : xs.length + ys.length ≤ 1099511627776) :
    RCX Try.prog 48 [(4294967296, some (.arr 3 1 (xs.map fun x => [.v (.int .i64 x)]) true)), (4294967297, some (.arr 3 1 (ys.map fun x => [.v (.int .i64 x)]) true))] [.ow 4294967296, .v (.int .i64 i), .ow 4294967297]
      [(0, some (.arr 3 1 ((xs.take i ++ ys ++ xs.drop i).map fun x => [.v (.int .i64 x)]) true))] (.ow 0) := by
  refine ⟨⟨_, Try.func48, by kernel_rfl, by kernel_rfl⟩, fun B Rd e w vs hs hv => ?_⟩
  obtain ⟨v0, v1, v2, rfl⟩ : ∃ v0 v1 v2, vs = [v0, v1, v2] := by
    match vs, hv.1 with
    | [a, b, c], _ => exact ⟨a, b, c, rfl⟩
  have hv0 := hv.2 0 _ v0 rfl rfl
  obtain rfl := (hv.2 1 _ v1 rfl rfl).v_inv
  have hv2 := hv.2 2 _ v2 rfl rfl
  obtain ⟨_, _, _, r1⟩ := hs.ob 4294967296 _ rfl
  obtain ⟨_, _, _, r2⟩ := hs.ob 4294967297 _ rfl
  rcases r1 with ⟨hn, _⟩ | ⟨b1, c1, u1, k1, s1, l1, m1, p1, z1, q1, _⟩
  · have := congrArg List.length hn
    simp only [List.length_map, List.length_nil] at this; omega
  rcases r2 with ⟨hn, _⟩ | ⟨b2, c2, u2, k2, s2, l2, m2, p2, z2, q2, _⟩
  · have := congrArg List.length hn
    simp only [List.length_map, List.length_nil] at this; omega
  have q1 := lr_ints q1
  have q2 := lr_ints q2
  have fl : ∀ xs : List Int, (xs.map fun x => ([.v (.int .i64 x)] : List AV)).flatten.length = xs.length := fun xs => by
    induction xs with
    | nil => rfl
    | cons x xs ih => simp only [List.map_cons, List.flatten_cons, List.length_append, ih]; simp; omega
  rw [fl] at q1 q2
  rw [List.length_map] at s1 s2 l1 l2
  rw [Nat.mul_one] at z1 z2
  have hne : b2 ≠ b1 := fun h => by
    subst h
    have := hs.inj 4294967296 4294967297 _ _ _ rfl rfl k1 k2
    omega
  have hm1 := hs.base 4294967296 _ _ rfl k1
  have hm2 := hs.base 4294967297 _ _ rfl k2
  obtain rfl : v0 = .slice (some ⟨b1, 0, none⟩) xs.length c1 := by cases hv0; exact s1
  obtain rfl : v2 = .slice (some ⟨b2, 0, none⟩) ys.length c2 := by cases hv2; exact s2
  have hc1 := cells_at p1 (us := xs.map (Value.int .i64)) (by rw [List.length_map]; exact q1)
  have hc2 := cells_at p2 (us := ys.map (Value.int .i64)) (by rw [List.length_map]; exact q2)
  have hc1' : ∀ (j : Nat) v, (xs.map (Value.int .i64))[j]? = some v → w.cell? ⟨b1, 0 + j, none⟩ = some v := fun j v hj => by rw [Nat.zero_add]; exact hc1 j v hj
  have hc2' : ∀ (j : Nat) v, (ys.map (Value.int .i64))[j]? = some v → w.cell? ⟨b2, 0 + j, none⟩ = some v := fun j v hj => by rw [Nat.zero_add]; exact hc2 j v hj
  have one : ∀ (l : List Int), ∀ v ∈ l.map (Value.int .i64), v.oneCell' = true := fun l v hv => by
    obtain ⟨x, _, rfl⟩ := List.mem_map.1 hv; rfl
  have hlen : (xs.take i ++ ys ++ xs.drop i).length = xs.length + ys.length := by simp; omega
  have hmx : xs.length + ys.length ≤ maxLen := by unfold maxLen; omega
  have hsome : ∀ j, j < c1 → (w.cell? ⟨b1, j, none⟩).isSome = true := fun j hj => by
    rw [cell_of_row w b1 j u1 _ _ p1]; simp [z1, hj]
  have hfro : ∀ b cur (t : TypeId) j, w.heap[b]? = some (.cells cur t (0, 0)) → w.frozen? ⟨b, j, none⟩ = false := fun b cur t j h => by
    have := frozen_of_row w b j cur t h
    simpa using this
  have hu1 : u1.toList.length = c1 := by simpa using z1
  by_cases hroom : xs.length + ys.length ≤ c1
  · by_cases hin : i < xs.length
    · refine (Any2.slices_Insert_int_shift layI b1 0 xs.length c1 i b2 0 ys.length c2 (xs.map (Value.int .i64)) (ys.map (Value.int .i64)) w hin h1 hroom m1 hne (by simp) (by simp) hc1' (fun j hj => by rw [Nat.zero_add]; exact hsome j (by omega)) (fun j hj => hfro _ _ _ _ p1) hc2' (one _) (one _) _ _ _ _ (by rw [World.shape?, p2]) (by rw [World.shape?, p1]) (by omega) (hfro _ _ _ _ p2) (hfro _ _ _ _ p2)).mono fun x w' hx => ?_
      obtain ⟨rfl, rfl⟩ := hx
      have g1 := heap_cells ((xs.map (Value.int .i64)).drop i) (0 + (i + ys.length)) w.drew u1 p1 (by simp; omega)
      have g2 := heap_cells (ys.map (Value.int .i64)) (0 + i) _ _ g1 (by simp; omega)
      rw [← hlen]
      refine gives_row hs (bx_cells hm1.1 _ _ _ (bx_cells hm1.1 _ _ _ hs.ext.drew)) g2 (by omega) m1 (by simp; omega) ?_ hm1.1
      rw [hlen, List.map_append, List.map_append, List.map_take, List.map_drop]
      have := tk_shift u1.toList (xs.map (Value.int .i64)) (ys.map (Value.int .i64)) i xs.length (xs.length + ys.length) q1 hi (by simp; omega) (by simp)
      rw [List.length_map] at this
      simp only [Nat.zero_add, List.length_map]
      exact this
    · obtain rfl : i = xs.length := by omega
      refine (Any2.slices_Insert_int_end_room layI b1 0 xs.length c1 b2 0 ys.length c2 (ys.map (Value.int .i64)) w h1 hroom m1 (by simp) (fun j hj => hsome _ (by omega)) (fun j hj => hfro _ _ _ _ p1) hc2' (one _)).mono fun x w' hx => ?_
      obtain ⟨rfl, rfl⟩ := hx
      have g1 := heap_cells (ys.map (Value.int .i64)) (0 + xs.length) w u1 p1 (by simp; omega)
      rw [← hlen]
      refine gives_row hs (bx_cells hm1.1 _ _ _ hs.ext) g1 (by omega) m1 (by simp; omega) ?_ hm1.1
      rw [hlen, List.map_append, List.map_append, List.map_take, List.map_drop]
      simp only [Nat.zero_add]
      exact tk_end u1.toList (xs.map (Value.int .i64)) (ys.map (Value.int .i64)) _ xs.length (xs.length + ys.length) q1 (by simp) (by simp)
  · have hby : (xs.length + ys.length) * 8 ≤ 140737488355328 := by omega
    have hnc := grownCap_ge w (xs.length + ys.length) c1 (rhoI.t 3)
    have hncm := grownCap_le_maxLen w (xs.length + ys.length) c1 (rhoI.t 3) hmx
    by_cases hin : i < xs.length
    · refine (Any2.slices_Insert_int_grow layI b1 0 xs.length c1 i b2 0 ys.length c2 (xs.map (Value.int .i64)) (ys.map (Value.int .i64)) w hin h1 l1 (by omega) hby (by simp) (by simp) hc1' hc2' (one _) (one _)).mono fun x w' hx => ?_
      obtain ⟨rfl, rfl⟩ := hx
      have hmn : B.mine w.heap.size := hs.ext.mine (Nat.le_refl _)
      have hnc0 := hnc
      rw [← hlen] at hnc hncm ⊢
      refine gives_row hs (bx_cells hmn _ _ _ (Bx.drew (bx_cells hmn _ _ _ (Bx.drew (hs.ext.alloc _))))) (heap_cells _ _ _ _ (heap_cells _ _ _ _ (heap_new w _) ?_) ?_) (by omega) hncm ?_ ?_ hmn
      · simp [size_zeroCells, vsz] at *; omega
      · simp [size_zeroCells, vsz] at *; omega
      · simp [size_zeroCells, vsz] at *; omega
      · rw [hlen, List.map_append, List.map_append, List.map_take, List.map_drop]
        simp only [Array.toList_append, List.toList_toArray]
        have := fun R1 R2 => tk_grow (xs.map (Value.int .i64)) (ys.map (Value.int .i64)) ((Builtin.zeroCells (Value.int .i64 0).cells (xs.length + ys.length - i)).toList ++ (Builtin.zeroCells (Value.int .i64 0).cells (grownCap w (xs.length + ys.length) c1 (rhoI.t 3) - (xs.length + ys.length))).toList) R1 R2 i xs.length (xs.length + ys.length) (by simp) hi (by simp)
        simp only [List.length_map, List.append_assoc] at this ⊢
        exact this _ _
    · obtain rfl : i = xs.length := by omega
      refine (Any2.slices_Insert_int_end_grow layI (some ⟨b1, 0, none⟩) xs.length c1 b2 0 ys.length c2 (xs.map (Value.int .i64)) (ys.map (Value.int .i64)) w h1 l1 (by omega) hby (by simp) (by simp) (fun h => by cases h) (fun a ha j v hj => by cases ha; rw [Addr.add_lit]; exact hc1' j v hj) hc2' (one _)).mono fun x w' hx => ?_
      obtain ⟨rfl, rfl⟩ := hx
      have hmn : B.mine w.heap.size := hs.ext.mine (Nat.le_refl _)
      have hnc0 := hnc
      rw [← hlen] at hnc hncm ⊢
      refine gives_row hs (Bx.alloc hs.ext.drew _) (heap_new w.drew _) (by omega) hncm (by simp [size_zeroCells, vsz]; omega) ?_ hmn
      rw [hlen, List.map_append, List.map_append, List.map_take, List.map_drop]
      simp only [Array.toList_append, List.toList_toArray]
      exact tk_new (xs.map (Value.int .i64)) (ys.map (Value.int .i64)) [] _ xs.length (xs.length + ys.length) (by simp) (by simp)
theorem ins_dom (x : Int × List Int × List Int) (y : List Int) (h : cond (decide (0 ≤ x.1 ∧ x.1 ≤ (x.2.1.length : Int) ∧ 0 < x.2.1.length ∧ 0 < x.2.2.length ∧ x.2.1.length + x.2.2.length ≤ 1099511627776)) (some (insI x.2.1 x.1 x.2.2)) none = some y) :
    ∃ n : Nat, x.1 = (n : Int) ∧ n ≤ x.2.1.length ∧ 0 < x.2.1.length ∧ 0 < x.2.2.length ∧ x.2.1.length + x.2.2.length ≤ 1099511627776 ∧ y = x.2.1.take n ++ x.2.2 ++ x.2.1.drop n := by
  by_cases h2 : 0 ≤ x.1 ∧ x.1 ≤ (x.2.1.length : Int) ∧ 0 < x.2.1.length ∧ 0 < x.2.2.length ∧ x.2.1.length + x.2.2.length ≤ 1099511627776
  · rw [decide_eq_true h2] at h
    obtain ⟨a, b, c, d, e⟩ := h2
    exact ⟨x.1.toNat, by omega, by omega, c, d, e, (Option.some.inj h).symm⟩
  · rw [decide_eq_false h2] at h; cases h
theorem c_slices_Insert_Lint_int_o_o_ok (N : Nat) : (c_slices_Insert_Lint_int_o_o N).ok Try.prog := by
  refine ⟨(fun h => by cases h), fun x y hxy => ⟨.ow 0, _, fun R k => rfl, (fun h => by cases h), fun _ => ⟨rfl, rfl⟩, ?_⟩⟩
  obtain ⟨n, h1, h2, h3, h4, h5, h6⟩ := ins_dom x y hxy
  have := ins_rcx _ _ n h2 h3 h4 h5
  rw [← h1, ← h6] at this
  exact this
end Go.Proofs.Ytggnolfcgaglfaa
