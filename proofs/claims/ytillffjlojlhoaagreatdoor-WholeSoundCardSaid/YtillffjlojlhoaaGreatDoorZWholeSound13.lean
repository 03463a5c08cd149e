/- part 13 -/
import Derived.Test.YtillffjlojlhoaaGreatDoorZWholeSound12
open Go Go.RowKit
set_option maxRecDepth 100000
namespace Go.Proofs.YtillffjlojlhoaaGreatDoor
theorem wr3:im T wE (kR [K6,KN,Ks]) 3000 Nb.1 Nb.2.1.1 Nb.2.1.2.1 Nb.2.1.2.2 tQ=some Nb.2.2:=ci
