/- From a walk that says 'it returns true and nothing that was there has turned' to the row's post. -/
import Derived.Test.YtggnolfcgaglfaaBase
import Derived.ProofKit
import Derived.OpenShut
import Derived.Lib.LaidTab
import Derived.Deep.DeepHandedRow
set_option linter.unusedVariables false
namespace Go.Proofs.Ytggnolfcgaglfaa
open Go.ChangeShapes Go.WideShapes Go.ChangeAt Go.RowKit
section
variable {H : Type} {enc : TypeId × Value → H} {P : Program}

theorem trodAll_ext (hl : laidOutB P = true) {W W' : World} (hb : Ext W W') : ∀ {ts : List TypeId} {vs : List Value} {ds : List (DataW H)} {p : List MemPlace},
    (∀ t ∈ ts, P.readableRec t = true ∧ t < P.types.size) → DataW.TrodAll enc P W 0 (fun _ => true) true ts vs ds p → (∀ x ∈ p, x.block < W.heap.size) →
    DataW.TrodAll enc P W' 0 (fun b => decide (b < W.heap.size)) true ts vs ds p
  | [], [], [], _, _, h, _ => h
  | [], [], _ :: _, _, _, h, _ => h.elim
  | [], _ :: _, _, _, _, h, _ => h.elim
  | _ :: _, [], _, _, _, h, _ => h.elim
  | _ :: _, _ :: _, [], _, _, h, _ => h.elim
  | t :: ts, v :: vs, d :: ds, p, hr, h, hp => by
    obtain ⟨p1, q1, h1, h2, rfl⟩ := h
    have ht := hr t (by simp)
    exact ⟨p1, q1, Below.trod hl ht.1 ht.2 h1 hb (fun x hx => hp x (by simp [hx])), trodAll_ext hl hb (fun u hu => hr u (by simp [hu])) h2 (fun x hx => hp x (by simp [hx])), rfl⟩

/-- THE POST OF A LAW'S ROW. -/
theorem law_post (hl : laidOutB P = true) {fn : Func} {s : ChangeSpec} {W : World} {args : Array Value} {ds gs : List (DataW H)} {before : List MemPlace} {f : FuncId} {tb : TypeId}
    (hv : s.vars = []) (hr : ∀ t ∈ fn.params.toList, P.readableRec t = true ∧ t < P.types.size) (hrt : fn.resultTypes = #[tb]) (htb : P.underlying tb = some .bool)
    (hW : DataW.Whole enc P fn.params.toList s.vars false W args.toList ds gs before)
    (hs : s.fn H (ds ++ gs) = { results := [.lit (.bool true)], args := ds })
    (hc : Calls P f args W fun e w' => e = .returned (.bool true) ∧ Ext W w') :
    Calls P f args W fun e W' => ∃ v, e = .returned v ∧ s.post enc P fn false true false false W args v W' := by
  refine hc.mono fun e W' ⟨he, hb⟩ => ⟨_, he, ?_⟩
  have hlt : ∀ p ∈ before, p.block < W.heap.size := hW.lt
  have hW2 := hW
  obtain ⟨p, q, hA, hV, rfl, hfz, hnd⟩ := hW2
  rw [hv] at hV
  have hgs : gs = [] := by
    cases gs with
    | nil => rfl
    | cons g gs => exact hV.elim
  subst hgs
  refine ⟨ds, [], p ++ q, [], p, [], hW, ?_, ?_, ?_, Below.frame hb _, fun h => by cases h⟩
  · rw [hs, hrt]
    exact trodAll_mk1 (shut_bool htb true)
  · rw [hs]
    exact trodAll_ext hl hb hr hA (fun x hx => hlt x (by simp [hx]))
  · rw [hv, hs]
    rfl
end

/-- an array of two integers of one kind, by value -/
theorem open_arr2 {H : Type} {enc : TypeId × Value → H} {P : Program} {w : World} {base : Nat} {spare : Nat → Bool} {held : Bool} {t e : TypeId} {k : IntKind} {r : Reach} {b0 : Nat} {v : Value} {d : DataW H} {p : List MemPlace}
    (ht : P.underlying t = some (.array 2 e)) (he : P.underlying e = some (.int k)) (hce : P.cellsOf e = 1) (hct : P.cellsOf t = 2)
    (hv : Value.okWide P w r b0 t v) (h : DataW.Trod enc P w base spare held t v d p) :
    ∃ x y : Int, v = .agg #[.int k x, .int k y] ∧ (Lit.int k x).wf = true ∧ (Lit.int k y).wf = true := by
  obtain ⟨fuel, h⟩ := h
  obtain ⟨xs, m, _, _, hl, hx, hi⟩ := DataW.trod_array ht h
  have hv' : ∃ cs, v = .agg cs ∧ cs.size = P.cellsOf t ∧ Row.okWide P w r b0 t cs := by
    unfold Value.okWide at hv
    simpa only [ht] using hv
  obtain ⟨cs, rfl, hcs, _⟩ := hv'
  rw [hct] at hcs
  obtain ⟨c0, c1, rfl⟩ : ∃ c0 c1, cs = #[c0, c1] := by
    match cs, hcs with
    | ⟨[a, b]⟩, _ => exact ⟨a, b, rfl⟩
  have h0 := hi 0 (by decide)
  have h1 := hi 1 (by decide)
  rw [hce] at h0 h1
  have l0 : 0 < xs.length := by omega
  have l1 : 1 < xs.length := by omega
  rw [List.getElem?_eq_getElem l0] at h0
  rw [List.getElem?_eq_getElem l1] at h1
  obtain ⟨x, e0, _, w0⟩ := DataW.trod_int he h0
  obtain ⟨y, e1, _, w1⟩ := DataW.trod_int he h1
  simp [Value.cells] at e0 e1
  exact ⟨x, y, by rw [e0, e1], w0, w1⟩
end Go.Proofs.Ytggnolfcgaglfaa
