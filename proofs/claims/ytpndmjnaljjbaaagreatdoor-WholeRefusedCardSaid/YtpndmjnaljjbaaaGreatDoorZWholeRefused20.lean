/- part 20 -/
import Derived.Test.YtpndmjnaljjbaaaGreatDoorZWholeRefused19
open Go Go.RowKit
set_option maxRecDepth 100000
namespace Go.Proofs.YtpndmjnaljjbaaaGreatDoor
theorem awe:hA T wE (kj [we9,Yd,V5,VQ,QX,QA,Oh,L5,LM,Lh]) 3000 Fp.1 Fp.2.1.1 Fp.2.1.2.1 Fp.2.1.2.2 sO=some Fp.2.2:=ci
