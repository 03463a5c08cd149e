/- part 17 -/
import Derived.Test.YtpndmjnaljjbaaaGreatDoorZWholeRefused16
open Go Go.RowKit
set_option maxRecDepth 100000
namespace Go.Proofs.YtpndmjnaljjbaaaGreatDoor
theorem wr7:hA T wE (kj [VQ,QX,QA,Oh,L5,LM,Lh]) 3000 V5.1 V5.2.1.1 V5.2.1.2.1 V5.2.1.2.2 sO=some V5.2.2:=ci
