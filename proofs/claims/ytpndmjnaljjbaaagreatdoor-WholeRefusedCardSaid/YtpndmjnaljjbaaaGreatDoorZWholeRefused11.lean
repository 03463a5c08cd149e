/- part 11 -/
import Derived.Test.YtpndmjnaljjbaaaGreatDoorZWholeRefused10
open Go Go.RowKit
set_option maxRecDepth 100000
namespace Go.Proofs.YtpndmjnaljjbaaaGreatDoor
theorem wr1:hA T wE (kj [Lh]) 3000 LM.1 LM.2.1.1 LM.2.1.2.1 LM.2.1.2.2 sO=some LM.2.2:=ci
