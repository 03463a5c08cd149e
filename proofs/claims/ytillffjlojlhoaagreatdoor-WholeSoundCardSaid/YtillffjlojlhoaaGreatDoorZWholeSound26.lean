/- part 26 -/
import Derived.Test.YtillffjlojlhoaaGreatDoorZWholeSound25
open Go Go.RowKit
set_option maxRecDepth 100000
namespace Go.Proofs.YtillffjlojlhoaaGreatDoor
theorem auZ:im T wE (kR [UH,Pv,K7,Kt,GG,EW,we9,W5,US,UG,PI,Pu,Nb,K6,KN,Ks]) 3000 W6.1 W6.2.1.1 W6.2.1.2.1 W6.2.1.2.2 tQ=some W6.2.2:=ci
