/- part 24 -/
import Derived.Test.YtpndmjnaljjbaaaGreatDoorZWholeRefused23
open Go Go.RowKit
set_option maxRecDepth 100000
namespace Go.Proofs.YtpndmjnaljjbaaaGreatDoor
theorem awi:hA T wE (kj [L6,Li,Hl,Fp,we9,Yd,V5,VQ,QX,QA,Oh,L5,LM,Lh]) 3000 QB.1 QB.2.1.1 QB.2.1.2.1 QB.2.1.2.2 sO=some QB.2.2:=ci
