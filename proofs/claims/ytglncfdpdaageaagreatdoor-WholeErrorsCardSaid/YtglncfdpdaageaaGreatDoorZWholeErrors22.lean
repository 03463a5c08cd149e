/- part 22 -/
import Derived.Test.YtglncfdpdaageaaGreatDoorZWholeErrors21
open Go Go.RowKit
set_option maxRecDepth 100000
namespace Go.Proofs.YtglncfdpdaageaaGreatDoor
theorem as_:gW T wE (jG [C5,By,YK,TZ,Rn,Q5,Mh,L7,JR,HI,Hu,G9]) 3000 G_.1 G_.2.1.1 G_.2.1.2.1 G_.2.1.2.2 qY=some G_.2.2:=ci
