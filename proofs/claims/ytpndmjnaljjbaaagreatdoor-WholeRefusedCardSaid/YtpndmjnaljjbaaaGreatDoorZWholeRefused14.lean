/- part 14 -/
import Derived.Test.YtpndmjnaljjbaaaGreatDoorZWholeRefused13
open Go Go.RowKit
set_option maxRecDepth 100000
namespace Go.Proofs.YtpndmjnaljjbaaaGreatDoor
theorem wr4:hA T wE (kj [Oh,L5,LM,Lh]) 3000 QA.1 QA.2.1.1 QA.2.1.2.1 QA.2.1.2.2 sO=some QA.2.2:=ci
