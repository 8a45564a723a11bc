/-
  YtpbpgbedkmbfkaaChk: the printed code is the translation's: each function, and the layout of its types.
-/
import Derived.Test.YtpbpgbedkmbfkaaCode
import Derived.Test.YtpbpgbedkmbfkaaAbD
import Derived.Test.YtpbpgbedkmbfkaaChecked
set_option maxRecDepth 100000
namespace Go.Proofs.Ytpbpgbedkmbfkaa
open Go.Ab
def tab : Tab := [
  (30, .arr 49 26, 490),
  (32, .arr 49 0, 49),
  (23, .arr 2 1, 2),
  (40, .st [10, 10, 10, 10, 10], 5),
  (26, .st [10, 10, 24], 10),
  (24, .arr 8 18, 8),
  (42, .st [10, 10, 10], 3),
  (64, .st [10, 62, 18, 18, 10, 10, 10, 10], 11),
  (62, .arr 4 18, 4),
  (28, .row 26, 1),
  (38, .row 10, 1),
  (52, .row 18, 1)]
def tyMap : List (Nat × Nat) := [(22, 1), (23, 18), (3, 10), (4, 0), (29, 30), (34, 32), (41, 23), (40, 1), (55, 40), (28, 26), (26, 24), (78, 30), (81, 42), (51, 10), (82, 1), (85, 64), (83, 62), (92, 1), (92, 1), (89, 1), (93, 1), (62, 1)]
def fnList : List Nat := [3, 4, 12, 13, 14, 15, 16, 17, 18, 19, 20, 21, 22, 23, 26, 28, 41, 42, 43, 44, 45, 46, 47, 48, 49, 50, 51, 52, 53, 58, 70, 71, 72, 73, 74, 75, 76, 77, 78, 79, 80, 81, 98, 99, 100, 101, 102, 103]

def gls : GL := []
noncomputable def cfg : Cfg := ⟨Try.prog, tab, tyMap, gls⟩
theorem cfg_tab : tabOk tab = true := by kernel_rfl
theorem cfg_tm : tmOk cfg = true := by kernel_rfl
theorem cfg_mix : cfg.P.follows .mixedOrders = true := by kernel_rfl
theorem ok_steadfastlaw23_ReachFinds : fnOk cfg 3 fc_steadfastlaw23_ReachFinds = true := by kernel_rfl
theorem ok_steadfastlaw23_ReachApart : fnOk cfg 4 fc_steadfastlaw23_ReachApart = true := by kernel_rfl
theorem ok_steadfastlaw23_shown : fnOk cfg 12 fc_steadfastlaw23_shown = true := by kernel_rfl
theorem ok_steadfastlaw23_world : fnOk cfg 13 fc_steadfastlaw23_world = true := by kernel_rfl
theorem ok_reach_Names : fnOk cfg 14 fc_reach_Names = true := by kernel_rfl
theorem ok_steadfastref23_Names : fnOk cfg 15 fc_steadfastref23_Names = true := by kernel_rfl
theorem ok_reach_From : fnOk cfg 16 fc_reach_From = true := by kernel_rfl
theorem ok_steadfastref23_From : fnOk cfg 17 fc_steadfastref23_From = true := by kernel_rfl
theorem ok_reach_Of : fnOk cfg 18 fc_reach_Of = true := by kernel_rfl
theorem ok_steadfastref23_Of : fnOk cfg 19 fc_steadfastref23_Of = true := by kernel_rfl
theorem ok_reach_Apart : fnOk cfg 20 fc_reach_Apart = true := by kernel_rfl
theorem ok_steadfastref23_Apart : fnOk cfg 21 fc_steadfastref23_Apart = true := by kernel_rfl
theorem ok_reach_Holds : fnOk cfg 22 fc_reach_Holds = true := by kernel_rfl
theorem ok_steadfastref23_Holds : fnOk cfg 23 fc_steadfastref23_Holds = true := by kernel_rfl
theorem ok_caps_Word : fnOk cfg 26 fc_caps_Word = true := by kernel_rfl
theorem ok_caps_Of : fnOk cfg 28 fc_caps_Of = true := by kernel_rfl
theorem ok_steadfastref07_Word : fnOk cfg 41 fc_steadfastref07_Word = true := by kernel_rfl
theorem ok_entry_Names : fnOk cfg 42 fc_entry_Names = true := by kernel_rfl
theorem ok_steadfastref07_Of : fnOk cfg 43 fc_steadfastref07_Of = true := by kernel_rfl
theorem ok_reach_From_1 : fnOk cfg 44 fc_reach_From_1 = true := by kernel_rfl
theorem ok_regs_Of : fnOk cfg 45 fc_regs_Of = true := by kernel_rfl
theorem ok_steadfastref14_Of : fnOk cfg 46 fc_steadfastref14_Of = true := by kernel_rfl
theorem ok_slices_ContainsFunc_int : fnOk cfg 47 fc_slices_ContainsFunc_int = true := by kernel_rfl
theorem ok_reach_Apart_1 : fnOk cfg 48 fc_reach_Apart_1 = true := by kernel_rfl
theorem ok_reach_Apart_1_1 : fnOk cfg 49 fc_reach_Apart_1_1 = true := by kernel_rfl
theorem ok_slices_ContainsFunc_api_Object : fnOk cfg 50 fc_slices_ContainsFunc_api_Object = true := by kernel_rfl
theorem ok_reach_Holds_1 : fnOk cfg 51 fc_reach_Holds_1 = true := by kernel_rfl
theorem ok_slices_ContainsFunc_uint64 : fnOk cfg 52 fc_slices_ContainsFunc_uint64 = true := by kernel_rfl
theorem ok_reach_Holds_1_1 : fnOk cfg 53 fc_reach_Holds_1_1 = true := by kernel_rfl
theorem ok_caps_may : fnOk cfg 58 fc_caps_may = true := by kernel_rfl
theorem ok_caps_within : fnOk cfg 70 fc_caps_within = true := by kernel_rfl
theorem ok_steadfastref01_With : fnOk cfg 71 fc_steadfastref01_With = true := by kernel_rfl
theorem ok_steadfastref01_Field : fnOk cfg 72 fc_steadfastref01_Field = true := by kernel_rfl
theorem ok_word_Number : fnOk cfg 73 fc_word_Number = true := by kernel_rfl
theorem ok_regs_Of_1 : fnOk cfg 74 fc_regs_Of_1 = true := by kernel_rfl
theorem ok_word_Field : fnOk cfg 75 fc_word_Field = true := by kernel_rfl
theorem ok_regs_Line : fnOk cfg 76 fc_regs_Line = true := by kernel_rfl
theorem ok_steadfastref01_Number : fnOk cfg 77 fc_steadfastref01_Number = true := by kernel_rfl
theorem ok_steadfastref14_Line : fnOk cfg 78 fc_steadfastref14_Line = true := by kernel_rfl
theorem ok_slices_IndexFunc_int : fnOk cfg 79 fc_slices_IndexFunc_int = true := by kernel_rfl
theorem ok_slices_IndexFunc_api_Object : fnOk cfg 80 fc_slices_IndexFunc_api_Object = true := by kernel_rfl
theorem ok_slices_IndexFunc_uint64 : fnOk cfg 81 fc_slices_IndexFunc_uint64 = true := by kernel_rfl
theorem ok_steadfastref01_is : fnOk cfg 98 fc_steadfastref01_is = true := by kernel_rfl
theorem ok_steadfastref01_bit : fnOk cfg 99 fc_steadfastref01_bit = true := by kernel_rfl
theorem ok_word_field : fnOk cfg 100 fc_word_field = true := by kernel_rfl
theorem ok_word_mask : fnOk cfg 101 fc_word_mask = true := by kernel_rfl
theorem ok_regs_right : fnOk cfg 102 fc_regs_right = true := by kernel_rfl
theorem ok_regs_within : fnOk cfg 103 fc_regs_within = true := by kernel_rfl
theorem cfg_D : ∀ g fc, D g = some fc → fnOk cfg g fc = true := by
  intro g fc h
  unfold D at h
  split at h
  · cases h; exact ok_steadfastlaw23_ReachFinds
  · cases h; exact ok_steadfastlaw23_ReachApart
  · cases h; exact ok_steadfastlaw23_shown
  · cases h; exact ok_steadfastlaw23_world
  · cases h; exact ok_reach_Names
  · cases h; exact ok_steadfastref23_Names
  · cases h; exact ok_reach_From
  · cases h; exact ok_steadfastref23_From
  · cases h; exact ok_reach_Of
  · cases h; exact ok_steadfastref23_Of
  · cases h; exact ok_reach_Apart
  · cases h; exact ok_steadfastref23_Apart
  · cases h; exact ok_reach_Holds
  · cases h; exact ok_steadfastref23_Holds
  · cases h; exact ok_caps_Word
  · cases h; exact ok_caps_Of
  · cases h; exact ok_steadfastref07_Word
  · cases h; exact ok_entry_Names
  · cases h; exact ok_steadfastref07_Of
  · cases h; exact ok_reach_From_1
  · cases h; exact ok_regs_Of
  · cases h; exact ok_steadfastref14_Of
  · cases h; exact ok_slices_ContainsFunc_int
  · cases h; exact ok_reach_Apart_1
  · cases h; exact ok_reach_Apart_1_1
  · cases h; exact ok_slices_ContainsFunc_api_Object
  · cases h; exact ok_reach_Holds_1
  · cases h; exact ok_slices_ContainsFunc_uint64
  · cases h; exact ok_reach_Holds_1_1
  · cases h; exact ok_caps_may
  · cases h; exact ok_caps_within
  · cases h; exact ok_steadfastref01_With
  · cases h; exact ok_steadfastref01_Field
  · cases h; exact ok_word_Number
  · cases h; exact ok_regs_Of_1
  · cases h; exact ok_word_Field
  · cases h; exact ok_regs_Line
  · cases h; exact ok_steadfastref01_Number
  · cases h; exact ok_steadfastref14_Line
  · cases h; exact ok_slices_IndexFunc_int
  · cases h; exact ok_slices_IndexFunc_api_Object
  · cases h; exact ok_slices_IndexFunc_uint64
  · cases h; exact ok_steadfastref01_is
  · cases h; exact ok_steadfastref01_bit
  · cases h; exact ok_word_field
  · cases h; exact ok_word_mask
  · cases h; exact ok_regs_right
  · cases h; exact ok_regs_within
  · cases h
theorem ctx : Ctx cfg D := ⟨cfg_tab, cfg_tm, cfg_mix, cfg_D⟩
theorem own : ownKnob Try.prog.godebug = none := by kernel_rfl
theorem laidOut : laidOutB Try.prog = true := by kernel_rfl
end Go.Proofs.Ytpbpgbedkmbfkaa
