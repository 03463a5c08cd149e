/- WholeSteps: the seat's texts as one (9 of 24; printed by wip/prune.py). -/
import Derived.Test.YtpccioglcgobkaaGreatDoorZWholeSteps8
set_option linter.unusedVariables false
set_option linter.unusedSimpArgs false
namespace Go.Proofs.YtpccioglcgobkaaGreatDoor
noncomputable section
set_option maxRecDepth 100000
open Go Go.RowKit
theorem wr3 : callK T wE (memK [we2, we1, we0]) 3000 we3.1 we3.2.1.1 we3.2.1.2.1 we3.2.1.2.2 triK = some we3.2.2 := by kernel_rfl
end
end Go.Proofs.YtpccioglcgobkaaGreatDoor
