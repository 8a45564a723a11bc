/-
  YtilcajpldklbiaaDoorClo: the printed code holds no reference but those to the program's variables.
-/
import Derived.Test.YtilcajpldklbiaaDoorCode
import Derived.Test.YtilcajpldklbiaaDoorAbF
set_option maxRecDepth 100000
namespace Go.Proofs.YtilcajpldklbiaaDoor
open Go.Ab
end Go.Proofs.YtilcajpldklbiaaDoor
