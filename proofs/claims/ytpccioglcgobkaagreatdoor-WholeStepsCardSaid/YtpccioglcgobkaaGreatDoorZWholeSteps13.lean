/- WholeSteps: the seat's texts as one (13 of 24; printed by wip/prune.py). -/
import Derived.Test.YtpccioglcgobkaaGreatDoorZWholeSteps12
set_option linter.unusedVariables false
set_option linter.unusedSimpArgs false
namespace Go.Proofs.YtpccioglcgobkaaGreatDoor
noncomputable section
set_option maxRecDepth 100000
open Go Go.RowKit
theorem wr7 : callK T wE (memK [we6, we5, we4, we3, we2, we1, we0]) 3000 we7.1 we7.2.1.1 we7.2.1.2.1 we7.2.1.2.2 triK = some we7.2.2 := by kernel_rfl
end
end Go.Proofs.YtpccioglcgobkaaGreatDoor
