/-
  YtmimfopnhmmlbaaGreatDoorClo: the printed code holds no reference but those to the program's variables.
-/
import Derived.Test.YtmimfopnhmmlbaaGreatDoorCode
import Derived.Test.YtmimfopnhmmlbaaGreatDoorAbF
set_option maxRecDepth 100000
namespace Go.Proofs.YtmimfopnhmmlbaaGreatDoor
open Go.Ab
theorem NL : Ep D 1 := fun f fc h => CV (p := fun _ c => c.body.clos 1) (by kernel_rfl) (show lkT dT f = some fc from h)
end Go.Proofs.YtmimfopnhmmlbaaGreatDoor
