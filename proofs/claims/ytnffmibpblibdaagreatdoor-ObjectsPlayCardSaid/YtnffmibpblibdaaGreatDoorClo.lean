/-
  YtnffmibpblibdaaGreatDoorClo: the printed code holds no reference but those to the program's variables.
-/
import Derived.Test.YtnffmibpblibdaaGreatDoorCode
import Derived.Test.YtnffmibpblibdaaGreatDoorAbF
set_option maxRecDepth 100000
namespace Go.Proofs.YtnffmibpblibdaaGreatDoor
open Go.Ab
theorem CW : ua D 1 := by
 intro g fc h;unfold D at h;split at h
 ·cases h; kernel_rfl
 ·cases h; kernel_rfl
 ·cases h; kernel_rfl
 ·cases h; kernel_rfl
 ·cases h; kernel_rfl
 ·cases h; kernel_rfl
 ·cases h; kernel_rfl
 ·cases h; kernel_rfl
 ·cases h; kernel_rfl
 ·cases h; kernel_rfl
 ·cases h; kernel_rfl
 ·cases h; kernel_rfl
 ·cases h; kernel_rfl
 ·cases h; kernel_rfl
 ·cases h; kernel_rfl
 ·cases h; kernel_rfl
 ·cases h; kernel_rfl
 ·cases h; kernel_rfl
 ·cases h; kernel_rfl
 ·cases h; kernel_rfl
 ·cases h; kernel_rfl
 ·cases h; kernel_rfl
 ·cases h; kernel_rfl
 ·cases h; kernel_rfl
 ·cases h; kernel_rfl
 ·cases h; kernel_rfl
 ·cases h; kernel_rfl
 ·cases h; kernel_rfl
 ·cases h; kernel_rfl
 ·cases h; kernel_rfl
 ·cases h; kernel_rfl
 ·cases h; kernel_rfl
 ·cases h; kernel_rfl
 ·cases h; kernel_rfl
 ·cases h; kernel_rfl
 ·cases h; kernel_rfl
 ·cases h; kernel_rfl
 ·cases h; kernel_rfl
 ·cases h; kernel_rfl
 ·cases h; kernel_rfl
 ·cases h; kernel_rfl
 ·cases h; kernel_rfl
 ·cases h; kernel_rfl
 ·cases h; kernel_rfl
 ·cases h; kernel_rfl
 ·cases h; kernel_rfl
 ·cases h; kernel_rfl
 ·cases h; kernel_rfl
 ·cases h; kernel_rfl
 ·cases h; kernel_rfl
 ·cases h; kernel_rfl
 ·cases h; kernel_rfl
 ·cases h; kernel_rfl
 ·cases h; kernel_rfl
 ·cases h; kernel_rfl
 ·cases h; kernel_rfl
 ·cases h; kernel_rfl
 ·cases h; kernel_rfl
 ·cases h; kernel_rfl
 ·cases h; kernel_rfl
 ·cases h; kernel_rfl
 ·cases h; kernel_rfl
 ·cases h; kernel_rfl
 ·cases h; kernel_rfl
 ·cases h; kernel_rfl
 ·cases h; kernel_rfl
 ·cases h; kernel_rfl
 ·cases h; kernel_rfl
 ·cases h; kernel_rfl
 ·cases h; kernel_rfl
 ·cases h; kernel_rfl
 ·cases h; kernel_rfl
 ·cases h; kernel_rfl
 ·cases h; kernel_rfl
 ·cases h; kernel_rfl
 ·cases h; kernel_rfl
 ·cases h; kernel_rfl
 ·cases h; kernel_rfl
 ·cases h; kernel_rfl
 ·cases h; kernel_rfl
 ·cases h; kernel_rfl
 ·cases h; kernel_rfl
 ·cases h; kernel_rfl
 ·cases h; kernel_rfl
 ·cases h; kernel_rfl
 ·cases h; kernel_rfl
 ·cases h; kernel_rfl
 ·cases h; kernel_rfl
 ·cases h; kernel_rfl
 ·cases h; kernel_rfl
 ·cases h; kernel_rfl
 ·cases h; kernel_rfl
 ·cases h; kernel_rfl
 ·cases h; kernel_rfl
 ·cases h; kernel_rfl
 ·cases h; kernel_rfl
 ·cases h; kernel_rfl
 ·cases h; kernel_rfl
 ·cases h; kernel_rfl
 ·cases h; kernel_rfl
 ·cases h; kernel_rfl
 ·cases h; kernel_rfl
 ·cases h
end Go.Proofs.YtnffmibpblibdaaGreatDoor
