/- part 12 -/
import Derived.Test.YtpndmjnaljjbaaaGreatDoorZWholeRefused11
open Go Go.RowKit
set_option maxRecDepth 100000
namespace Go.Proofs.YtpndmjnaljjbaaaGreatDoor
theorem wr2:hA T wE (kj [LM,Lh]) 3000 L5.1 L5.2.1.1 L5.2.1.2.1 L5.2.1.2.2 sO=some L5.2.2:=ci
