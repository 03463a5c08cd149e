/- part 25 -/
import Derived.Test.YtillffjlojlhoaaGreatDoorZWholeSound24
open Go Go.RowKit
set_option maxRecDepth 100000
namespace Go.Proofs.YtillffjlojlhoaaGreatDoor
theorem auY:im T wE (kR [Pv,K7,Kt,GG,EW,we9,W5,US,UG,PI,Pu,Nb,K6,KN,Ks]) 3000 UH.1 UH.2.1.1 UH.2.1.2.1 UH.2.1.2.2 tQ=some UH.2.2:=ci
