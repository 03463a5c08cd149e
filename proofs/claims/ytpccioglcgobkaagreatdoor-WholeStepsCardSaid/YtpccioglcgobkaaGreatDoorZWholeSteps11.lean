/- WholeSteps: the seat's texts as one (11 of 24; printed by wip/prune.py). -/
import Derived.Test.YtpccioglcgobkaaGreatDoorZWholeSteps10
set_option linter.unusedVariables false
set_option linter.unusedSimpArgs false
namespace Go.Proofs.YtpccioglcgobkaaGreatDoor
noncomputable section
set_option maxRecDepth 100000
open Go Go.RowKit
theorem wr5 : callK T wE (memK [we4, we3, we2, we1, we0]) 3000 we5.1 we5.2.1.1 we5.2.1.2.1 we5.2.1.2.2 triK = some we5.2.2 := by kernel_rfl
end
end Go.Proofs.YtpccioglcgobkaaGreatDoor
