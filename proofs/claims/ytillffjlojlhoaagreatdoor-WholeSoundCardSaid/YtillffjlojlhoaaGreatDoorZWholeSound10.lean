/- part 10 -/
import Derived.Test.YtillffjlojlhoaaGreatDoorZWholeSound9
open Go Go.RowKit
set_option maxRecDepth 100000
namespace Go.Proofs.YtillffjlojlhoaaGreatDoor
theorem wr0:im T wE (kR []) 3000 Ks.1 Ks.2.1.1 Ks.2.1.2.1 Ks.2.1.2.2 tQ=some Ks.2.2:=ci
