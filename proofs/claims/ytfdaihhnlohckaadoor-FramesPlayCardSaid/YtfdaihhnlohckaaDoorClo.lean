/-
  YtfdaihhnlohckaaDoorClo: the printed code holds no reference but those to the program's variables.
-/
import Derived.Test.YtfdaihhnlohckaaDoorCode
import Derived.Test.YtfdaihhnlohckaaDoorAb24
set_option maxRecDepth 100000
namespace Go.Proofs.YtfdaihhnlohckaaDoor
open Go.Ab
theorem D_clos : DClos D 1 := by
  intro g fc h
  unfold D at h
  split at h
  · cases h; kernel_rfl
  · cases h; kernel_rfl
  · cases h; kernel_rfl
  · cases h; kernel_rfl
  · cases h; kernel_rfl
  · cases h; kernel_rfl
  · cases h; kernel_rfl
  · cases h; kernel_rfl
  · cases h; kernel_rfl
  · cases h; kernel_rfl
  · cases h; kernel_rfl
  · cases h; kernel_rfl
  · cases h; kernel_rfl
  · cases h; kernel_rfl
  · cases h; kernel_rfl
  · cases h; kernel_rfl
  · cases h; kernel_rfl
  · cases h; kernel_rfl
  · cases h; kernel_rfl
  · cases h; kernel_rfl
  · cases h; kernel_rfl
  · cases h; kernel_rfl
  · cases h; kernel_rfl
  · cases h; kernel_rfl
  · cases h; kernel_rfl
  · cases h; kernel_rfl
  · cases h; kernel_rfl
  · cases h; kernel_rfl
  · cases h; kernel_rfl
  · cases h; kernel_rfl
  · cases h
end Go.Proofs.YtfdaihhnlohckaaDoor
