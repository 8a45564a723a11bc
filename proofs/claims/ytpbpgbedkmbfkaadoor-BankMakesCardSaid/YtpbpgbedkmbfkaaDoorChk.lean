/-
  YtpbpgbedkmbfkaaDoorChk: the printed code is the translation's: each function, and the layout of its types.
-/
import Derived.Test.YtpbpgbedkmbfkaaDoorCode
import Derived.Test.YtpbpgbedkmbfkaaDoorAbD
import Derived.Test.YtpbpgbedkmbfkaaDoorChecked
set_option maxRecDepth 100000
namespace Go.Proofs.YtpbpgbedkmbfkaaDoor
open Go.Ab
def tab : Tab := [
  (40, .st [10, 10, 10, 10, 10], 5),
  (48, .arr 49 42, 147),
  (26, .st [10, 10, 24], 10),
  (42, .st [10, 10, 10], 3),
  (24, .arr 8 18, 8),
  (50, .arr 8 10, 8),
  (43, .st [1, 1, 48, 48, 50, 48, 0, 82], 1476),
  (59, .st [1, 0, 0, 10, 10], 5),
  (55, .st [24, 24, 1, 50], 25),
  (33, .st [1, 1, 0, 10, 10], 5),
  (31, .st [1, 1, 48, 48, 50, 48, 0], 452),
  (80, .st [10, 10, 78, 78], 34),
  (82, .arr 1024 0, 1024),
  (21, .st [10, 1], 2),
  (78, .arr 16 18, 16),
  (84, .st [10, 18], 2),
  (108, .arr 64 12, 64),
  (90, .st [10, 18, 88], 10),
  (88, .arr 8 0, 8),
  (28, .row 26, 1),
  (58, .row 24, 1),
  (57, .row 55, 1),
  (53, .row 1, 1),
  (38, .row 10, 1),
  (86, .row 84, 1),
  (92, .row 90, 1)]
def tyMap : List (Nat × Nat) := [(22, 1), (23, 18), (3, 10), (4, 0), (25, 1), (29, 10), (41, 40), (26, 1), (43, 1), (46, 48), (50, 26), (45, 42), (48, 24), (51, 50), (52, 1), (74, 43), (69, 48), (83, 59), (81, 1), (80, 55), (55, 1), (84, 1), (86, 33), (70, 50), (94, 1), (94, 1), (97, 31), (68, 1), (108, 80), (72, 82), (91, 1), (113, 21), (106, 78), (118, 1), (78, 1), (122, 84), (123, 1), (125, 1), (126, 108), (5, 12), (143, 1), (147, 90), (145, 88)]
def fnList : List Nat := [3, 4, 5, 6, 7, 8, 9, 10, 11, 12, 13, 14, 15, 16, 17, 18, 19, 20, 21, 22, 23, 24, 25, 26, 27, 28, 29, 30, 31, 32, 33, 34, 35, 36, 37, 38, 39, 40, 41, 42, 43, 44, 45, 46, 47, 48, 49, 50, 51, 52, 53]

def gls : GL := [(0, 0, 108)]
noncomputable def cfg : Cfg := ⟨Tryd.prog, tab, tyMap, gls⟩
theorem cfg_tab : tabOk tab = true := by kernel_rfl
theorem cfg_tm : tmOk cfg = true := by kernel_rfl
theorem cfg_mix : cfg.P.follows .mixedOrders = true := by kernel_rfl
theorem ok_steadfastlaw18_BankMakes : fnOk cfg 3 fc_steadfastlaw18_BankMakes = true := by kernel_rfl
theorem ok_steadfastlaw18_shown : fnOk cfg 4 fc_steadfastlaw18_shown = true := by kernel_rfl
theorem ok_steadfastlaw18_made : fnOk cfg 5 fc_steadfastlaw18_made = true := by kernel_rfl
theorem ok_bank_Make : fnOk cfg 6 fc_bank_Make = true := by kernel_rfl
theorem ok_steadfastref18_Make : fnOk cfg 7 fc_steadfastref18_Make = true := by kernel_rfl
theorem ok_objects_Store_Names : fnOk cfg 8 fc_objects_Store_Names = true := by kernel_rfl
theorem ok_objects_Store_Make : fnOk cfg 9 fc_objects_Store_Make = true := by kernel_rfl
theorem ok_caps_May : fnOk cfg 10 fc_caps_May = true := by kernel_rfl
theorem ok_steadfastref07_Word : fnOk cfg 11 fc_steadfastref07_Word = true := by kernel_rfl
theorem ok_bank_End : fnOk cfg 12 fc_bank_End = true := by kernel_rfl
theorem ok_nvm_Of : fnOk cfg 13 fc_nvm_Of = true := by kernel_rfl
theorem ok_steadfastref03_Of : fnOk cfg 14 fc_steadfastref03_Of = true := by kernel_rfl
theorem ok_objects_Of : fnOk cfg 15 fc_objects_Of = true := by kernel_rfl
theorem ok_steadfastref10_Of : fnOk cfg 16 fc_steadfastref10_Of = true := by kernel_rfl
theorem ok_bank_by : fnOk cfg 17 fc_bank_by = true := by kernel_rfl
theorem ok_objects_Store_Next : fnOk cfg 18 fc_objects_Store_Next = true := by kernel_rfl
theorem ok_caps_Word : fnOk cfg 19 fc_caps_Word = true := by kernel_rfl
theorem ok_steadfastref07_May : fnOk cfg 20 fc_steadfastref07_May = true := by kernel_rfl
theorem ok_steadfastref10_Store_Next : fnOk cfg 21 fc_steadfastref10_Store_Next = true := by kernel_rfl
theorem ok_caps_Of : fnOk cfg 22 fc_caps_Of = true := by kernel_rfl
theorem ok_entry_Names : fnOk cfg 23 fc_entry_Names = true := by kernel_rfl
theorem ok_objects_Store_lay : fnOk cfg 24 fc_objects_Store_lay = true := by kernel_rfl
theorem ok_steadfastref01_With : fnOk cfg 25 fc_steadfastref01_With = true := by kernel_rfl
theorem ok_nvm_New : fnOk cfg 26 fc_nvm_New = true := by kernel_rfl
theorem ok_frames_New : fnOk cfg 27 fc_frames_New = true := by kernel_rfl
theorem ok_nvm_Memory_Lines : fnOk cfg 28 fc_nvm_Memory_Lines = true := by kernel_rfl
theorem ok_frames_Frames_Take : fnOk cfg 29 fc_frames_Frames_Take = true := by kernel_rfl
theorem ok_objects_Store_share : fnOk cfg 30 fc_objects_Store_share = true := by kernel_rfl
theorem ok_steadfastref04_New : fnOk cfg 31 fc_steadfastref04_New = true := by kernel_rfl
theorem ok_steadfastref10_lines : fnOk cfg 32 fc_steadfastref10_lines = true := by kernel_rfl
theorem ok_steadfastref04_Frames_Take : fnOk cfg 33 fc_steadfastref04_Frames_Take = true := by kernel_rfl
theorem ok_entry_Open : fnOk cfg 34 fc_entry_Open = true := by kernel_rfl
theorem ok_caps_may : fnOk cfg 35 fc_caps_may = true := by kernel_rfl
theorem ok_steadfastref07_Of : fnOk cfg 36 fc_steadfastref07_Of = true := by kernel_rfl
theorem ok_steadfastref08_Open : fnOk cfg 37 fc_steadfastref08_Open = true := by kernel_rfl
theorem ok_frames_Frames_Alloc : fnOk cfg 38 fc_frames_Frames_Alloc = true := by kernel_rfl
theorem ok_nvm_Memory_Store : fnOk cfg 39 fc_nvm_Memory_Store = true := by kernel_rfl
theorem ok_steadfastref01_is : fnOk cfg 40 fc_steadfastref01_is = true := by kernel_rfl
theorem ok_steadfastref01_bit : fnOk cfg 41 fc_steadfastref01_bit = true := by kernel_rfl
theorem ok_frames_set_turn : fnOk cfg 42 fc_frames_set_turn = true := by kernel_rfl
theorem ok_frames_Frames_in : fnOk cfg 43 fc_frames_Frames_in = true := by kernel_rfl
theorem ok_objects_lines_add : fnOk cfg 44 fc_objects_lines_add = true := by kernel_rfl
theorem ok_steadfastref04_Frames_turn : fnOk cfg 45 fc_steadfastref04_Frames_turn = true := by kernel_rfl
theorem ok_caps_within : fnOk cfg 46 fc_caps_within = true := by kernel_rfl
theorem ok_steadfastref01_Field : fnOk cfg 47 fc_steadfastref01_Field = true := by kernel_rfl
theorem ok_math_bits_TrailingZeros64 : fnOk cfg 48 fc_math_bits_TrailingZeros64 = true := by kernel_rfl
theorem ok_nvm_Memory_at : fnOk cfg 49 fc_nvm_Memory_at = true := by kernel_rfl
theorem ok_nvm_Memory_step : fnOk cfg 50 fc_nvm_Memory_step = true := by kernel_rfl
theorem ok_frames_Frames_State : fnOk cfg 51 fc_frames_Frames_State = true := by kernel_rfl
theorem ok_steadfastref04_Frames_State : fnOk cfg 52 fc_steadfastref04_Frames_State = true := by kernel_rfl
theorem ok_frames_set_has : fnOk cfg 53 fc_frames_set_has = true := by kernel_rfl
theorem cfg_D : ∀ g fc, D g = some fc → fnOk cfg g fc = true := by
  intro g fc h
  unfold D at h
  split at h
  · cases h; exact ok_steadfastlaw18_BankMakes
  · cases h; exact ok_steadfastlaw18_shown
  · cases h; exact ok_steadfastlaw18_made
  · cases h; exact ok_bank_Make
  · cases h; exact ok_steadfastref18_Make
  · cases h; exact ok_objects_Store_Names
  · cases h; exact ok_objects_Store_Make
  · cases h; exact ok_caps_May
  · cases h; exact ok_steadfastref07_Word
  · cases h; exact ok_bank_End
  · cases h; exact ok_nvm_Of
  · cases h; exact ok_steadfastref03_Of
  · cases h; exact ok_objects_Of
  · cases h; exact ok_steadfastref10_Of
  · cases h; exact ok_bank_by
  · cases h; exact ok_objects_Store_Next
  · cases h; exact ok_caps_Word
  · cases h; exact ok_steadfastref07_May
  · cases h; exact ok_steadfastref10_Store_Next
  · cases h; exact ok_caps_Of
  · cases h; exact ok_entry_Names
  · cases h; exact ok_objects_Store_lay
  · cases h; exact ok_steadfastref01_With
  · cases h; exact ok_nvm_New
  · cases h; exact ok_frames_New
  · cases h; exact ok_nvm_Memory_Lines
  · cases h; exact ok_frames_Frames_Take
  · cases h; exact ok_objects_Store_share
  · cases h; exact ok_steadfastref04_New
  · cases h; exact ok_steadfastref10_lines
  · cases h; exact ok_steadfastref04_Frames_Take
  · cases h; exact ok_entry_Open
  · cases h; exact ok_caps_may
  · cases h; exact ok_steadfastref07_Of
  · cases h; exact ok_steadfastref08_Open
  · cases h; exact ok_frames_Frames_Alloc
  · cases h; exact ok_nvm_Memory_Store
  · cases h; exact ok_steadfastref01_is
  · cases h; exact ok_steadfastref01_bit
  · cases h; exact ok_frames_set_turn
  · cases h; exact ok_frames_Frames_in
  · cases h; exact ok_objects_lines_add
  · cases h; exact ok_steadfastref04_Frames_turn
  · cases h; exact ok_caps_within
  · cases h; exact ok_steadfastref01_Field
  · cases h; exact ok_math_bits_TrailingZeros64
  · cases h; exact ok_nvm_Memory_at
  · cases h; exact ok_nvm_Memory_step
  · cases h; exact ok_frames_Frames_State
  · cases h; exact ok_steadfastref04_Frames_State
  · cases h; exact ok_frames_set_has
  · cases h
theorem ctx : Ctx cfg D := ⟨cfg_tab, cfg_tm, cfg_mix, cfg_D⟩
theorem own : ownKnob Tryd.prog.godebug = none := by kernel_rfl
theorem laidOut : laidOutB Tryd.prog = true := by kernel_rfl
end Go.Proofs.YtpbpgbedkmbfkaaDoor
