/- part 11 -/
import Derived.Test.YtglncfdpdaageaaGreatDoorZWholeErrors10
open Go Go.RowKit
set_option maxRecDepth 100000
namespace Go.Proofs.YtglncfdpdaageaaGreatDoor
theorem wr1:gW T wE (jG [G9]) 3000 Hu.1 Hu.2.1.1 Hu.2.1.2.1 Hu.2.1.2.2 qY=some Hu.2.2:=ci
