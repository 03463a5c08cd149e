/- The table of math/bits, laid: from the row's own words to what the reckoning asks. -/
import Derived.Test.YtmijkdlkhakmiaaDoorRows
import Derived.Test.YtmijkdlkhakmiaaDoorOpen
import Derived.Lib.LaidTab
set_option linter.unusedVariables false
set_option linter.unusedSimpArgs false
namespace Go.Proofs.YtmijkdlkhakmiaaDoor
open Go Go.ChangeShapes Go.WideShapes Go.ChangeAt Go.RowKit
theorem gTabType : (Tryd.prog.globals[0]?).map (·.type) = some 56 := by kernel_rfl
theorem cellsArr : Tryd.prog.cellsOf 56 = 32 := by kernel_rfl
theorem cellsElem : Tryd.prog.cellsOf 5 = 1 := by kernel_rfl
def tabZ : List Int := [0, 1, 28, 2, 29, 14, 24, 3, 30, 22, 20, 15, 25, 17, 4, 8, 31, 27, 13, 23, 21, 19, 16, 7, 26, 12, 18, 6, 11, 5, 10, 9]
theorem gTab_is : gTab = [(0, .u8, tabZ)] := rfl
theorem tabs_of_laid {W : World} (h : laidMetH Tryd.prog Rows.towerBuildsRow.laid W) : Tabs W := by
  have ht := Lib.tabIs_of_head (rest := []) (g := 0) (by kernel_rfl) gTabType Tryd.underlying56 Tryd.underlying5 cellsElem cellsArr (k := .u8)
    (zs := tabZ) h
  rintro b o u ⟨k, l, x, h1, h2, rfl⟩
  rw [gTab_is, gasc] at h1
  cases hb : Nat.beq b 0 with
  | false => rw [hb] at h1; cases h1
  | true =>
    rw [hb] at h1
    have hb := Nat.eq_of_beq_eq_true hb
    subst hb
    cases h1
    have hlt : o < tabZ.length := (List.getElem?_eq_some_iff.1 h2).1
    have hc := ht.cell (g := 0) (by kernel_rfl) o (by simpa using hlt)
    rw [hc]
    rw [List.getD_eq_getElem?_getD, h2]
    rfl
noncomputable def laidWorld (os : Os) : World :=
  { World.holding Tryd.prog os ⟨#[], #[], []⟩ with heap := (World.holding Tryd.prog os ⟨#[], #[], []⟩).heap.modify 0 fun
      | .cells _ t frozen => .cells #[.int .u8 0, .int .u8 1, .int .u8 28, .int .u8 2, .int .u8 29, .int .u8 14, .int .u8 24, .int .u8 3, .int .u8 30, .int .u8 22, .int .u8 20, .int .u8 15, .int .u8 25, .int .u8 17, .int .u8 4, .int .u8 8, .int .u8 31, .int .u8 27, .int .u8 13, .int .u8 23, .int .u8 21, .int .u8 19, .int .u8 16, .int .u8 7, .int .u8 26, .int .u8 12, .int .u8 18, .int .u8 6, .int .u8 11, .int .u8 5, .int .u8 10, .int .u8 9] t frozen
      | o => o }
end Go.Proofs.YtmijkdlkhakmiaaDoor
