/- part 20 -/
import Derived.Test.YtglncfdpdaageaaGreatDoorZWholeErrors19
open Go Go.RowKit
set_option maxRecDepth 100000
namespace Go.Proofs.YtglncfdpdaageaaGreatDoor
theorem as8:gW T wE (jG [YK,TZ,Rn,Q5,Mh,L7,JR,HI,Hu,G9]) 3000 By.1 By.2.1.1 By.2.1.2.1 By.2.1.2.2 qY=some By.2.2:=ci
