/- part 10 -/
import Derived.Test.YtpndmjnaljjbaaaGreatDoorZWholeRefused9
open Go Go.RowKit
set_option maxRecDepth 100000
namespace Go.Proofs.YtpndmjnaljjbaaaGreatDoor
theorem wr0:hA T wE (kj []) 3000 Lh.1 Lh.2.1.1 Lh.2.1.2.1 Lh.2.1.2.2 sO=some Lh.2.2:=ci
