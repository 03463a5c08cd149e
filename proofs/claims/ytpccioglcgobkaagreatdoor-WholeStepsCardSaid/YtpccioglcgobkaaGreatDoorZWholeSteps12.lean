/- WholeSteps: the seat's texts as one (12 of 24; printed by wip/prune.py). -/
import Derived.Test.YtpccioglcgobkaaGreatDoorZWholeSteps11
set_option linter.unusedVariables false
set_option linter.unusedSimpArgs false
namespace Go.Proofs.YtpccioglcgobkaaGreatDoor
noncomputable section
set_option maxRecDepth 100000
open Go Go.RowKit
theorem wr6 : callK T wE (memK [we5, we4, we3, we2, we1, we0]) 3000 we6.1 we6.2.1.1 we6.2.1.2.1 we6.2.1.2.2 triK = some we6.2.2 := by kernel_rfl
end
end Go.Proofs.YtpccioglcgobkaaGreatDoor
