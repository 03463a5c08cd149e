/- WholeSteps: the seat's texts as one (8 of 24; printed by wip/prune.py). -/
import Derived.Test.YtpccioglcgobkaaGreatDoorZWholeSteps7
set_option linter.unusedVariables false
set_option linter.unusedSimpArgs false
namespace Go.Proofs.YtpccioglcgobkaaGreatDoor
noncomputable section
set_option maxRecDepth 100000
open Go Go.RowKit
theorem wr2 : callK T wE (memK [we1, we0]) 3000 we2.1 we2.2.1.1 we2.2.1.2.1 we2.2.1.2.2 triK = some we2.2.2 := by kernel_rfl
end
end Go.Proofs.YtpccioglcgobkaaGreatDoor
