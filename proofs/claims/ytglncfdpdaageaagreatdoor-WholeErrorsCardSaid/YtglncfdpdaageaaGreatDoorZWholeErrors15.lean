/- part 15 -/
import Derived.Test.YtglncfdpdaageaaGreatDoorZWholeErrors14
open Go Go.RowKit
set_option maxRecDepth 100000
namespace Go.Proofs.YtglncfdpdaageaaGreatDoor
theorem wr5:gW T wE (jG [L7,JR,HI,Hu,G9]) 3000 Mh.1 Mh.2.1.1 Mh.2.1.2.1 Mh.2.1.2.2 qY=some Mh.2.2:=ci
