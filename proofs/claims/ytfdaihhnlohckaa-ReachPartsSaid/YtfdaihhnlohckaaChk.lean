/-
  YtfdaihhnlohckaaChk: the printed code is the translation's: each function, and the layout of its types.
-/
import Derived.Test.YtfdaihhnlohckaaCode
import Derived.Test.YtfdaihhnlohckaaAb22
import Derived.Test.YtfdaihhnlohckaaChecked
set_option maxRecDepth 100000
namespace Go.Proofs.Ytfdaihhnlohckaa
open Go.Ab
def tab : Tab := [
  (22, .arr 2 10, 2),
  (30, .arr 49 26, 490),
  (32, .arr 49 0, 49),
  (26, .st [10, 10, 24], 10),
  (24, .arr 8 18, 8),
  (40, .st [10, 10, 10, 10, 10], 5),
  (42, .st [10, 10, 10], 3),
  (28, .row 26, 1)]
def tyMap : List (Nat × Nat) := [(32, 1), (33, 18), (23, 22), (4, 0), (38, 30), (40, 32), (3, 10), (37, 26), (35, 24), (62, 40), (63, 30), (64, 1), (69, 42), (25, 10)]
def fnList : List Nat := [6, 7, 16, 17, 18, 19, 29, 30, 31, 32, 43, 44, 55, 56, 57]

def gls : GL := []
noncomputable def cfg : Cfg := ⟨Try.prog, tab, tyMap, gls⟩
theorem cfg_tab : tabOk tab = true := by kernel_rfl
theorem cfg_tm : tmOk cfg = true := by kernel_rfl
theorem cfg_mix : cfg.P.follows .mixedOrders = true := by kernel_rfl
theorem ok_steadfastlaw23_ReachLess : fnOk cfg 6 fc_steadfastlaw23_ReachLess = true := by kernel_rfl
theorem ok_steadfastlaw23_ReachParts : fnOk cfg 7 fc_steadfastlaw23_ReachParts = true := by kernel_rfl
theorem ok_steadfastlaw23_shown : fnOk cfg 16 fc_steadfastlaw23_shown = true := by kernel_rfl
theorem ok_steadfastlaw23_world : fnOk cfg 17 fc_steadfastlaw23_world = true := by kernel_rfl
theorem ok_reach_From : fnOk cfg 18 fc_reach_From = true := by kernel_rfl
theorem ok_reach_Names : fnOk cfg 19 fc_reach_Names = true := by kernel_rfl
theorem ok_steadfastref07_Word : fnOk cfg 29 fc_steadfastref07_Word = true := by kernel_rfl
theorem ok_reach_From_1 : fnOk cfg 30 fc_reach_From_1 = true := by kernel_rfl
theorem ok_caps_Of : fnOk cfg 31 fc_caps_Of = true := by kernel_rfl
theorem ok_entry_Names : fnOk cfg 32 fc_entry_Names = true := by kernel_rfl
theorem ok_steadfastref01_With : fnOk cfg 43 fc_steadfastref01_With = true := by kernel_rfl
theorem ok_caps_may : fnOk cfg 44 fc_caps_may = true := by kernel_rfl
theorem ok_steadfastref01_is : fnOk cfg 55 fc_steadfastref01_is = true := by kernel_rfl
theorem ok_steadfastref01_bit : fnOk cfg 56 fc_steadfastref01_bit = true := by kernel_rfl
theorem ok_caps_within : fnOk cfg 57 fc_caps_within = true := by kernel_rfl
theorem cfg_D : ∀ g fc, D g = some fc → fnOk cfg g fc = true := by
  intro g fc h
  unfold D at h
  split at h
  · cases h; exact ok_steadfastlaw23_ReachLess
  · cases h; exact ok_steadfastlaw23_ReachParts
  · cases h; exact ok_steadfastlaw23_shown
  · cases h; exact ok_steadfastlaw23_world
  · cases h; exact ok_reach_From
  · cases h; exact ok_reach_Names
  · cases h; exact ok_steadfastref07_Word
  · cases h; exact ok_reach_From_1
  · cases h; exact ok_caps_Of
  · cases h; exact ok_entry_Names
  · cases h; exact ok_steadfastref01_With
  · cases h; exact ok_caps_may
  · cases h; exact ok_steadfastref01_is
  · cases h; exact ok_steadfastref01_bit
  · cases h; exact ok_caps_within
  · cases h
theorem ctx : Ctx cfg D := ⟨cfg_tab, cfg_tm, cfg_mix, cfg_D⟩
theorem own : ownKnob Try.prog.godebug = none := by kernel_rfl
theorem laidOut : laidOutB Try.prog = true := by kernel_rfl
end Go.Proofs.Ytfdaihhnlohckaa
