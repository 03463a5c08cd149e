/- WholeSteps: the seat's texts as one (20 of 24; printed by wip/prune.py). -/
import Derived.Test.YtpccioglcgobkaaGreatDoorZWholeSteps19
set_option linter.unusedVariables false
set_option linter.unusedSimpArgs false
namespace Go.Proofs.YtpccioglcgobkaaGreatDoor
noncomputable section
set_option maxRecDepth 100000
open Go Go.RowKit
theorem wr14 : callK T wE (memK [we13, we12, we11, we10, we9, we8, we7, we6, we5, we4, we3, we2, we1, we0]) 3000 we14.1 we14.2.1.1 we14.2.1.2.1 we14.2.1.2.2 triK = some we14.2.2 := by kernel_rfl
end
end Go.Proofs.YtpccioglcgobkaaGreatDoor
