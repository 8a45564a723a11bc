/-
  YtmimfopnhmmlbaaDoorClo: the printed code holds no reference but those to the program's variables.
-/
import Derived.Test.YtmimfopnhmmlbaaDoorCode
import Derived.Test.YtmimfopnhmmlbaaDoorAbF
set_option maxRecDepth 100000
namespace Go.Proofs.YtmimfopnhmmlbaaDoor
open Go.Ab
theorem Vd : At D 1 := by
 intro g fc h;unfold D at h;split at h
 ·cases h; kernel_rfl
 ·cases h; kernel_rfl
 ·cases h; kernel_rfl
 ·cases h; kernel_rfl
 ·cases h; kernel_rfl
 ·cases h; kernel_rfl
 ·cases h; kernel_rfl
 ·cases h; kernel_rfl
 ·cases h; kernel_rfl
 ·cases h; kernel_rfl
 ·cases h; kernel_rfl
 ·cases h; kernel_rfl
 ·cases h; kernel_rfl
 ·cases h; kernel_rfl
 ·cases h; kernel_rfl
 ·cases h; kernel_rfl
 ·cases h; kernel_rfl
 ·cases h; kernel_rfl
 ·cases h; kernel_rfl
 ·cases h; kernel_rfl
 ·cases h; kernel_rfl
 ·cases h; kernel_rfl
 ·cases h; kernel_rfl
 ·cases h; kernel_rfl
 ·cases h; kernel_rfl
 ·cases h; kernel_rfl
 ·cases h; kernel_rfl
 ·cases h; kernel_rfl
 ·cases h; kernel_rfl
 ·cases h; kernel_rfl
 ·cases h; kernel_rfl
 ·cases h; kernel_rfl
 ·cases h; kernel_rfl
 ·cases h; kernel_rfl
 ·cases h; kernel_rfl
 ·cases h; kernel_rfl
 ·cases h; kernel_rfl
 ·cases h; kernel_rfl
 ·cases h; kernel_rfl
 ·cases h; kernel_rfl
 ·cases h; kernel_rfl
 ·cases h; kernel_rfl
 ·cases h; kernel_rfl
 ·cases h; kernel_rfl
 ·cases h; kernel_rfl
 ·cases h; kernel_rfl
 ·cases h; kernel_rfl
 ·cases h; kernel_rfl
 ·cases h; kernel_rfl
 ·cases h; kernel_rfl
 ·cases h; kernel_rfl
 ·cases h; kernel_rfl
 ·cases h; kernel_rfl
 ·cases h; kernel_rfl
 ·cases h; kernel_rfl
 ·cases h; kernel_rfl
 ·cases h; kernel_rfl
 ·cases h; kernel_rfl
 ·cases h; kernel_rfl
 ·cases h; kernel_rfl
 ·cases h; kernel_rfl
 ·cases h; kernel_rfl
 ·cases h; kernel_rfl
 ·cases h; kernel_rfl
 ·cases h; kernel_rfl
 ·cases h; kernel_rfl
 ·cases h; kernel_rfl
 ·cases h; kernel_rfl
 ·cases h; kernel_rfl
 ·cases h; kernel_rfl
 ·cases h; kernel_rfl
 ·cases h; kernel_rfl
 ·cases h; kernel_rfl
 ·cases h; kernel_rfl
 ·cases h; kernel_rfl
 ·cases h; kernel_rfl
 ·cases h; kernel_rfl
 ·cases h; kernel_rfl
 ·cases h; kernel_rfl
 ·cases h; kernel_rfl
 ·cases h; kernel_rfl
 ·cases h; kernel_rfl
 ·cases h; kernel_rfl
 ·cases h; kernel_rfl
 ·cases h; kernel_rfl
 ·cases h; kernel_rfl
 ·cases h; kernel_rfl
 ·cases h
end Go.Proofs.YtmimfopnhmmlbaaDoor
