/- part 23 -/
import Derived.Test.YtillffjlojlhoaaGreatDoorZWholeSound22
open Go Go.RowKit
set_option maxRecDepth 100000
namespace Go.Proofs.YtillffjlojlhoaaGreatDoor
theorem auW:im T wE (kR [Kt,GG,EW,we9,W5,US,UG,PI,Pu,Nb,K6,KN,Ks]) 3000 K7.1 K7.2.1.1 K7.2.1.2.1 K7.2.1.2.2 tQ=some K7.2.2:=ci
