/- part 15 -/
import Derived.Test.YtpndmjnaljjbaaaGreatDoorZWholeRefused14
open Go Go.RowKit
set_option maxRecDepth 100000
namespace Go.Proofs.YtpndmjnaljjbaaaGreatDoor
theorem wr5:hA T wE (kj [QA,Oh,L5,LM,Lh]) 3000 QX.1 QX.2.1.1 QX.2.1.2.1 QX.2.1.2.2 sO=some QX.2.2:=ci
