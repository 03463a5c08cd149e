/- part 22 -/
import Derived.Test.YtillffjlojlhoaaGreatDoorZWholeSound21
open Go Go.RowKit
set_option maxRecDepth 100000
namespace Go.Proofs.YtillffjlojlhoaaGreatDoor
theorem auV:im T wE (kR [GG,EW,we9,W5,US,UG,PI,Pu,Nb,K6,KN,Ks]) 3000 Kt.1 Kt.2.1.1 Kt.2.1.2.1 Kt.2.1.2.2 tQ=some Kt.2.2:=ci
