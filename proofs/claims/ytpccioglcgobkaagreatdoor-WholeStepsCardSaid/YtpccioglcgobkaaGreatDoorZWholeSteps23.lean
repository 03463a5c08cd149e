/- WholeSteps: the seat's texts as one (23 of 24; printed by wip/prune.py). -/
import Derived.Test.YtpccioglcgobkaaGreatDoorZWholeSteps22
set_option linter.unusedVariables false
set_option linter.unusedSimpArgs false
namespace Go.Proofs.YtpccioglcgobkaaGreatDoor
noncomputable section
set_option maxRecDepth 100000
open Go Go.RowKit
theorem wr : (callK T wE (memK [we16, we15, we14, we13, we12, we11, we10, we9, we8, we7, we6, we5, we4, we3, we2, we1, we0]) 3000 4 [] .lf 0 fun c _ _ => match c with
 | .v (.bool true) => some 0
 | _ => none) = some 0 := by kernel_rfl
end
end Go.Proofs.YtpccioglcgobkaaGreatDoor
