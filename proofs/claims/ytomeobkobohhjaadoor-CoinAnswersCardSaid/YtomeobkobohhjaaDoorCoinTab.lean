/- From the row's own words to the walk's: the table of math/bits, and a script. -/
import Derived.Test.YtomeobkobohhjaaDoorRows
import Derived.Test.YtomeobkobohhjaaDoorCoinWalk
import Derived.Test.YtomeobkobohhjaaDoorLaw
set_option linter.unusedVariables false
set_option linter.unusedSimpArgs false
namespace Go.Proofs.YtomeobkobohhjaaDoor.coin
open Go Go.ChangeShapes Go.WideShapes Go.ChangeAt Go.RowKit
theorem gTabType : (Tryd.prog.globals[0]?).map (·.type) = some 43 := by kernel_rfl
theorem cellsArr : Tryd.prog.cellsOf 43 = 32 := by kernel_rfl
theorem cellsElem : Tryd.prog.cellsOf 5 = 1 := by kernel_rfl
theorem tab_of_laid {W : World} (h : laidMetH Tryd.prog Rows.coinMixesRow.laid W) : Tab W := by
  have ht := Lib.tabIs_of_head (rest := []) (g := 0) (by kernel_rfl) gTabType Tryd.underlying43 Tryd.underlying5 cellsElem cellsArr (k := .u8)
    (zs := [0, 1, 28, 2, 29, 14, 24, 3, 30, 22, 20, 15, 25, 17, 4, 8, 31, 27, 13, 23, 21, 19, 16, 7, 26, 12, 18, 6, 11, 5, 10, 9]) h
  intro j hj
  have hc := ht.cell (g := 0) (by kernel_rfl) j (by simpa using hj)
  rw [hc]
  have key : ∀ j, j < 32 → ([0, 1, 28, 2, 29, 14, 24, 3, 30, 22, 20, 15, 25, 17, 4, 8, 31, 27, 13, 23, 21, 19, 16, 7, 26, 12, 18, 6, 11, 5, 10, 9] : List Int).getD j 0 = ((Lib.deBruijn32tab.getD j 0 : Nat) : Int) := by decide
  rw [key j hj]
theorem script_of {H : Type} {enc : TypeId × Value → H} {W : World} {base : Nat} {v : Value} {d : DataW H} {p : List MemPlace} {t e : TypeId}
    (ht : Tryd.prog.underlying t = some (.slice e)) (he : Tryd.prog.underlying e = some (.int .u32)) (hce : Tryd.prog.cellsOf e = 1)
    (hv : Value.okWide Tryd.prog W .any base t v) (h : DataW.Trod enc Tryd.prog W 0 (fun _ => true) true t v d p) : ∃ l, Script W v l := by
  obtain ⟨a0, len, cap, rfl⟩ := okWide_slice ht hv
  obtain ⟨fuel, hf⟩ := h
  rcases open_ints ht he hce hf with ⟨hcs, hx⟩ | ⟨a, len', cap', zs, hcs, _, hl, hm, hz, hx, hcell, hwz⟩
  · simp [Value.cells] at hcs
    obtain ⟨rfl, rfl, rfl⟩ := hcs
    exact ⟨[], none, 0, rfl, by decide, by simp, fun h => absurd rfl h⟩
  · simp [Value.cells] at hcs
    obtain ⟨rfl, rfl, rfl⟩ := hcs
    simp only [if_true] at hz
    unfold maxLen at hm
    have hnn : ∀ z ∈ zs, 0 ≤ z ∧ z ≤ 4294967295 := fun z hzz => bounds_u32 (hwz z hzz)
    have hlen : ((zs.take len).map Int.toNat).length = len := by simp; omega
    refine ⟨(zs.take len).map Int.toNat, some a, cap, by rw [hlen], by rw [hlen]; omega, ?_, fun hne => ?_⟩
    · intro x hx
      obtain ⟨z, hz1, rfl⟩ := List.mem_map.1 hx
      have := hnn z (List.mem_of_mem_take hz1)
      omega
    · have hpos : 0 < len := by
        rcases Nat.eq_zero_or_pos len with h0 | h0
        · subst h0; simp at hne
        · exact h0
      obtain ⟨b, o, s⟩ := a
      have h0 := hcell 0 (by omega)
      have hs : s = none := by
        cases s with
        | none => rfl
        | some s =>
          simp [Addr.add, World.cell?] at h0
          split at h0 <;> simp at h0
      subst hs
      refine ⟨b, o, rfl, fun i hi => ?_⟩
      rw [hlen] at hi
      have hc := hcell i (by omega)
      have hadd : (⟨b, o, none⟩ : Addr).add i = ⟨b, o + i, none⟩ := by unfold Addr.add; split <;> simp_all
      rw [hadd] at hc
      rw [hc]
      congr 2
      have hg : zs.getD i 0 ∈ zs := by
        rw [List.getD_eq_getElem?_getD, List.getElem?_eq_getElem (show i < zs.length by omega)]
        exact List.getElem_mem _
      have hb := hnn _ hg
      have : ((zs.take len).map Int.toNat).getD i 0 = (zs.getD i 0).toNat := by
        simp [List.getD_eq_getElem?_getD, List.getElem?_map, List.getElem?_take, hi, List.getElem?_eq_getElem (show i < zs.length by omega)]
      rw [this]
      omega
end Go.Proofs.YtomeobkobohhjaaDoor.coin
