/-
  YtilcajpldklbiaaGreatDoorClo: the printed code holds no reference but those to the program's variables.
-/
import Derived.Test.YtilcajpldklbiaaGreatDoorCode
import Derived.Test.YtilcajpldklbiaaGreatDoorAbF
set_option maxRecDepth 100000
namespace Go.Proofs.YtilcajpldklbiaaGreatDoor
open Go.Ab
end Go.Proofs.YtilcajpldklbiaaGreatDoor
