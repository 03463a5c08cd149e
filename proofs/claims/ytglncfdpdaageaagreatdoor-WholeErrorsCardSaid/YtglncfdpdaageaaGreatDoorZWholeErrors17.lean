/- part 17 -/
import Derived.Test.YtglncfdpdaageaaGreatDoorZWholeErrors16
open Go Go.RowKit
set_option maxRecDepth 100000
namespace Go.Proofs.YtglncfdpdaageaaGreatDoor
theorem wr7:gW T wE (jG [Q5,Mh,L7,JR,HI,Hu,G9]) 3000 Rn.1 Rn.2.1.1 Rn.2.1.2.1 Rn.2.1.2.2 qY=some Rn.2.2:=ci
