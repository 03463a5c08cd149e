/- part 11 -/
import Derived.Test.YtillffjlojlhoaaGreatDoorZWholeSound10
open Go Go.RowKit
set_option maxRecDepth 100000
namespace Go.Proofs.YtillffjlojlhoaaGreatDoor
theorem wr1:im T wE (kR [Ks]) 3000 KN.1 KN.2.1.1 KN.2.1.2.1 KN.2.1.2.2 tQ=some KN.2.2:=ci
