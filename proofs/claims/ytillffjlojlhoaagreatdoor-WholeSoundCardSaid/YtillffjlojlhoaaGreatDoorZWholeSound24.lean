/- part 24 -/
import Derived.Test.YtillffjlojlhoaaGreatDoorZWholeSound23
open Go Go.RowKit
set_option maxRecDepth 100000
namespace Go.Proofs.YtillffjlojlhoaaGreatDoor
theorem auX:im T wE (kR [K7,Kt,GG,EW,we9,W5,US,UG,PI,Pu,Nb,K6,KN,Ks]) 3000 Pv.1 Pv.2.1.1 Pv.2.1.2.1 Pv.2.1.2.2 tQ=some Pv.2.2:=ci
