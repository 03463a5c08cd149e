/- WholeSteps: the seat's texts as one (16 of 24; printed by wip/prune.py). -/
import Derived.Test.YtpccioglcgobkaaGreatDoorZWholeSteps15
set_option linter.unusedVariables false
set_option linter.unusedSimpArgs false
namespace Go.Proofs.YtpccioglcgobkaaGreatDoor
noncomputable section
set_option maxRecDepth 100000
open Go Go.RowKit
theorem wr10 : callK T wE (memK [we9, we8, we7, we6, we5, we4, we3, we2, we1, we0]) 3000 we10.1 we10.2.1.1 we10.2.1.2.1 we10.2.1.2.2 triK = some we10.2.2 := by kernel_rfl
end
end Go.Proofs.YtpccioglcgobkaaGreatDoor
