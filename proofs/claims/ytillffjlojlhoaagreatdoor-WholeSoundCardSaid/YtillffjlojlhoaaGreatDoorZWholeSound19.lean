/- part 19 -/
import Derived.Test.YtillffjlojlhoaaGreatDoorZWholeSound18
open Go Go.RowKit
set_option maxRecDepth 100000
namespace Go.Proofs.YtillffjlojlhoaaGreatDoor
theorem wr9:im T wE (kR [W5,US,UG,PI,Pu,Nb,K6,KN,Ks]) 3000 we9.1 we9.2.1.1 we9.2.1.2.1 we9.2.1.2.2 tQ=some we9.2.2:=ci
