/- part 13 -/
import Derived.Test.YtpndmjnaljjbaaaGreatDoorZWholeRefused12
open Go Go.RowKit
set_option maxRecDepth 100000
namespace Go.Proofs.YtpndmjnaljjbaaaGreatDoor
theorem wr3:hA T wE (kj [L5,LM,Lh]) 3000 Oh.1 Oh.2.1.1 Oh.2.1.2.1 Oh.2.1.2.2 sO=some Oh.2.2:=ci
