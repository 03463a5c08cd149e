/- part 19 -/
import Derived.Test.YtglncfdpdaageaaGreatDoorZWholeErrors18
open Go Go.RowKit
set_option maxRecDepth 100000
namespace Go.Proofs.YtglncfdpdaageaaGreatDoor
theorem wr9:gW T wE (jG [TZ,Rn,Q5,Mh,L7,JR,HI,Hu,G9]) 3000 YK.1 YK.2.1.1 YK.2.1.2.1 YK.2.1.2.2 qY=some YK.2.2:=ci
