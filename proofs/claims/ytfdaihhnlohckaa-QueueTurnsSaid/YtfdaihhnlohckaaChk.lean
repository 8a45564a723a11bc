/-
  YtfdaihhnlohckaaChk: the printed code is the translation's: each function, and the layout of its types.
-/
import Derived.Test.YtfdaihhnlohckaaCode
import Derived.Test.YtfdaihhnlohckaaAb22
import Derived.Test.YtfdaihhnlohckaaChecked
set_option maxRecDepth 100000
namespace Go.Proofs.Ytfdaihhnlohckaa
open Go.Ab
def tab : Tab := [
  (22, .arr 2 10, 2),
  (20, .row 0, 1)]
def tyMap : List (Nat × Nat) := [(22, 1), (23, 22), (3, 10), (4, 0), (25, 10)]
def fnList : List Nat := [3, 4, 5, 10, 11, 12, 13, 14, 15, 28]

def gls : GL := []
noncomputable def cfg : Cfg := ⟨Try.prog, tab, tyMap, gls⟩
theorem cfg_tab : tabOk tab = true := by kernel_rfl
theorem cfg_tm : tmOk cfg = true := by kernel_rfl
theorem cfg_mix : cfg.P.follows .mixedOrders = true := by kernel_rfl
theorem ok_steadfastlaw19_QueueNexts : fnOk cfg 3 fc_steadfastlaw19_QueueNexts = true := by kernel_rfl
theorem ok_steadfastlaw19_QueueTurns : fnOk cfg 4 fc_steadfastlaw19_QueueTurns = true := by kernel_rfl
theorem ok_steadfastlaw19_QueueCores : fnOk cfg 5 fc_steadfastlaw19_QueueCores = true := by kernel_rfl
theorem ok_steadfastlaw19_shown : fnOk cfg 10 fc_steadfastlaw19_shown = true := by kernel_rfl
theorem ok_queue_Next : fnOk cfg 11 fc_queue_Next = true := by kernel_rfl
theorem ok_steadfastlaw19_few : fnOk cfg 12 fc_steadfastlaw19_few = true := by kernel_rfl
theorem ok_steadfastref19_Next : fnOk cfg 13 fc_steadfastref19_Next = true := by kernel_rfl
theorem ok_queue_Mine : fnOk cfg 14 fc_queue_Mine = true := by kernel_rfl
theorem ok_steadfastref19_Mine : fnOk cfg 15 fc_steadfastref19_Mine = true := by kernel_rfl
theorem ok_queue_Next_1 : fnOk cfg 28 fc_queue_Next_1 = true := by kernel_rfl
theorem cfg_D : ∀ g fc, D g = some fc → fnOk cfg g fc = true := by
  intro g fc h
  unfold D at h
  split at h
  · cases h; exact ok_steadfastlaw19_QueueNexts
  · cases h; exact ok_steadfastlaw19_QueueTurns
  · cases h; exact ok_steadfastlaw19_QueueCores
  · cases h; exact ok_steadfastlaw19_shown
  · cases h; exact ok_queue_Next
  · cases h; exact ok_steadfastlaw19_few
  · cases h; exact ok_steadfastref19_Next
  · cases h; exact ok_queue_Mine
  · cases h; exact ok_steadfastref19_Mine
  · cases h; exact ok_queue_Next_1
  · cases h
theorem ctx : Ctx cfg D := ⟨cfg_tab, cfg_tm, cfg_mix, cfg_D⟩
theorem own : ownKnob Try.prog.godebug = none := by kernel_rfl
theorem laidOut : laidOutB Try.prog = true := by kernel_rfl
end Go.Proofs.Ytfdaihhnlohckaa
