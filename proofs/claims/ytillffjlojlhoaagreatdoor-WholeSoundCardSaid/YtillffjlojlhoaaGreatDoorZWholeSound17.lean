/- part 17 -/
import Derived.Test.YtillffjlojlhoaaGreatDoorZWholeSound16
open Go Go.RowKit
set_option maxRecDepth 100000
namespace Go.Proofs.YtillffjlojlhoaaGreatDoor
theorem wr7:im T wE (kR [UG,PI,Pu,Nb,K6,KN,Ks]) 3000 US.1 US.2.1.1 US.2.1.2.1 US.2.1.2.2 tQ=some US.2.2:=ci
