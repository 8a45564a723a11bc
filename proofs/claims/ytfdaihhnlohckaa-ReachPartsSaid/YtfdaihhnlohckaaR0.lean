import Derived.Test.YtfdaihhnlohckaaClo
import Derived.KernelRfl
set_option maxRecDepth 100000
namespace Go.Proofs.Ytfdaihhnlohckaa
open Go.Ab
theorem ev_shown : ev D 3000 (.f f_steadfastlaw23_shown []) ⟨[], []⟩ = some (.v (.bool true) ⟨[], []⟩) := by kernel_rfl
end Go.Proofs.Ytfdaihhnlohckaa
