/-
  YtpbpgbedkmbfkaaChk: the printed code is the translation's: each function, and the layout of its types.
-/
import Derived.Test.YtpbpgbedkmbfkaaCode
import Derived.Test.YtpbpgbedkmbfkaaAbD
import Derived.Test.YtpbpgbedkmbfkaaChecked
set_option maxRecDepth 100000
namespace Go.Proofs.Ytpbpgbedkmbfkaa
open Go.Ab
def tab : Tab := [
  (26, .st [10, 10, 24], 10),
  (40, .st [10, 10, 10, 10, 10], 5),
  (48, .arr 49 42, 147),
  (42, .st [10, 10, 10], 3),
  (24, .arr 8 18, 8),
  (50, .arr 8 10, 8),
  (43, .st [1, 1, 48, 48, 50, 48, 0, 82], 1476),
  (59, .st [1, 0, 0, 10, 10], 5),
  (55, .st [24, 24, 1, 50], 25),
  (33, .st [1, 1, 0, 10, 10], 5),
  (31, .st [1, 1, 48, 48, 50, 48, 0], 452),
  (82, .arr 1024 0, 1024),
  (80, .st [10, 10, 78, 78], 34),
  (21, .st [10, 1], 2),
  (78, .arr 16 18, 16),
  (90, .st [10, 18, 88], 10),
  (88, .arr 8 0, 8),
  (84, .st [10, 18], 2),
  (28, .row 26, 1),
  (58, .row 24, 1),
  (57, .row 55, 1),
  (53, .row 1, 1),
  (38, .row 10, 1),
  (92, .row 90, 1),
  (86, .row 84, 1)]
def tyMap : List (Nat × Nat) := [(3, 10), (4, 0), (22, 1), (28, 26), (55, 40), (47, 1), (51, 10), (23, 18), (48, 1), (94, 1), (95, 48), (81, 42), (26, 24), (96, 50), (97, 1), (119, 43), (114, 48), (113, 1), (140, 59), (138, 1), (137, 55), (100, 1), (141, 1), (143, 33), (115, 50), (40, 1), (40, 1), (152, 31), (154, 1), (117, 82), (160, 80), (147, 1), (167, 21), (170, 1), (172, 1), (158, 78), (173, 1), (176, 90), (135, 1), (174, 88), (193, 84)]
def fnList : List Nat := [5, 10, 24, 25, 26, 27, 28, 35, 36, 37, 38, 39, 40, 41, 42, 43, 54, 55, 56, 57, 58, 59, 60, 62, 63, 64, 65, 66, 67, 68, 69, 70, 71, 72, 82, 83, 84, 85, 86, 87, 88, 89, 90, 91, 92, 93, 94, 95, 96, 97, 98, 99, 104, 105, 106, 107, 108, 109, 110]

def gls : GL := []
noncomputable def cfg : Cfg := ⟨Try.prog, tab, tyMap, gls⟩
theorem cfg_tab : tabOk tab = true := by kernel_rfl
theorem cfg_tm : tmOk cfg = true := by kernel_rfl
theorem cfg_mix : cfg.P.follows .mixedOrders = true := by kernel_rfl
theorem ok_steadfastlaw18_BankFull : fnOk cfg 5 fc_steadfastlaw18_BankFull = true := by kernel_rfl
theorem ok_steadfastlaw18_BankEnds : fnOk cfg 10 fc_steadfastlaw18_BankEnds = true := by kernel_rfl
theorem ok_steadfastlaw18_shown : fnOk cfg 24 fc_steadfastlaw18_shown = true := by kernel_rfl
theorem ok_steadfastlaw18_made : fnOk cfg 25 fc_steadfastlaw18_made = true := by kernel_rfl
theorem ok_caps_Word : fnOk cfg 26 fc_caps_Word = true := by kernel_rfl
theorem ok_bank_Make : fnOk cfg 27 fc_bank_Make = true := by kernel_rfl
theorem ok_caps_Of : fnOk cfg 28 fc_caps_Of = true := by kernel_rfl
theorem ok_objects_Store_Names : fnOk cfg 35 fc_objects_Store_Names = true := by kernel_rfl
theorem ok_objects_Store_Get : fnOk cfg 36 fc_objects_Store_Get = true := by kernel_rfl
theorem ok_bank_End : fnOk cfg 37 fc_bank_End = true := by kernel_rfl
theorem ok_steadfastref18_End : fnOk cfg 38 fc_steadfastref18_End = true := by kernel_rfl
theorem ok_objects_Store_End : fnOk cfg 39 fc_objects_Store_End = true := by kernel_rfl
theorem ok_caps_Diminish : fnOk cfg 40 fc_caps_Diminish = true := by kernel_rfl
theorem ok_steadfastref07_Word : fnOk cfg 41 fc_steadfastref07_Word = true := by kernel_rfl
theorem ok_entry_Names : fnOk cfg 42 fc_entry_Names = true := by kernel_rfl
theorem ok_steadfastref07_Of : fnOk cfg 43 fc_steadfastref07_Of = true := by kernel_rfl
theorem ok_nvm_Of : fnOk cfg 54 fc_nvm_Of = true := by kernel_rfl
theorem ok_steadfastref03_Of : fnOk cfg 55 fc_steadfastref03_Of = true := by kernel_rfl
theorem ok_objects_Of : fnOk cfg 56 fc_objects_Of = true := by kernel_rfl
theorem ok_steadfastref10_Of : fnOk cfg 57 fc_steadfastref10_Of = true := by kernel_rfl
theorem ok_caps_may : fnOk cfg 58 fc_caps_may = true := by kernel_rfl
theorem ok_bank_by : fnOk cfg 59 fc_bank_by = true := by kernel_rfl
theorem ok_objects_Store_Next : fnOk cfg 60 fc_objects_Store_Next = true := by kernel_rfl
theorem ok_steadfastref10_Store_Names : fnOk cfg 62 fc_steadfastref10_Store_Names = true := by kernel_rfl
theorem ok_steadfastref10_Store_Get : fnOk cfg 63 fc_steadfastref10_Store_Get = true := by kernel_rfl
theorem ok_objects_Store_is : fnOk cfg 64 fc_objects_Store_is = true := by kernel_rfl
theorem ok_nvm_Memory_Load : fnOk cfg 65 fc_nvm_Memory_Load = true := by kernel_rfl
theorem ok_steadfastref07_May : fnOk cfg 66 fc_steadfastref07_May = true := by kernel_rfl
theorem ok_objects_Store_own : fnOk cfg 67 fc_objects_Store_own = true := by kernel_rfl
theorem ok_frames_Frames_Free : fnOk cfg 68 fc_frames_Frames_Free = true := by kernel_rfl
theorem ok_entry_End : fnOk cfg 69 fc_entry_End = true := by kernel_rfl
theorem ok_caps_within : fnOk cfg 70 fc_caps_within = true := by kernel_rfl
theorem ok_steadfastref01_With : fnOk cfg 71 fc_steadfastref01_With = true := by kernel_rfl
theorem ok_steadfastref01_Field : fnOk cfg 72 fc_steadfastref01_Field = true := by kernel_rfl
theorem ok_nvm_New : fnOk cfg 82 fc_nvm_New = true := by kernel_rfl
theorem ok_frames_New : fnOk cfg 83 fc_frames_New = true := by kernel_rfl
theorem ok_nvm_Memory_Lines : fnOk cfg 84 fc_nvm_Memory_Lines = true := by kernel_rfl
theorem ok_frames_Frames_Take : fnOk cfg 85 fc_frames_Frames_Take = true := by kernel_rfl
theorem ok_objects_Store_share : fnOk cfg 86 fc_objects_Store_share = true := by kernel_rfl
theorem ok_steadfastref04_New : fnOk cfg 87 fc_steadfastref04_New = true := by kernel_rfl
theorem ok_steadfastref10_lines : fnOk cfg 88 fc_steadfastref10_lines = true := by kernel_rfl
theorem ok_steadfastref04_Frames_Take : fnOk cfg 89 fc_steadfastref04_Frames_Take = true := by kernel_rfl
theorem ok_caps_May : fnOk cfg 90 fc_caps_May = true := by kernel_rfl
theorem ok_entry_Open : fnOk cfg 91 fc_entry_Open = true := by kernel_rfl
theorem ok_steadfastref08_Names : fnOk cfg 92 fc_steadfastref08_Names = true := by kernel_rfl
theorem ok_steadfastref10_Store_is : fnOk cfg 93 fc_steadfastref10_Store_is = true := by kernel_rfl
theorem ok_steadfastref03_Memory_Load : fnOk cfg 94 fc_steadfastref03_Memory_Load = true := by kernel_rfl
theorem ok_nvm_Memory_at : fnOk cfg 95 fc_nvm_Memory_at = true := by kernel_rfl
theorem ok_frames_Frames_in : fnOk cfg 96 fc_frames_Frames_in = true := by kernel_rfl
theorem ok_frames_set_turn : fnOk cfg 97 fc_frames_set_turn = true := by kernel_rfl
theorem ok_steadfastref01_is : fnOk cfg 98 fc_steadfastref01_is = true := by kernel_rfl
theorem ok_steadfastref01_bit : fnOk cfg 99 fc_steadfastref01_bit = true := by kernel_rfl
theorem ok_objects_lines_add : fnOk cfg 104 fc_objects_lines_add = true := by kernel_rfl
theorem ok_steadfastref04_Frames_turn : fnOk cfg 105 fc_steadfastref04_Frames_turn = true := by kernel_rfl
theorem ok_steadfastref03_Memory_is : fnOk cfg 106 fc_steadfastref03_Memory_is = true := by kernel_rfl
theorem ok_steadfastref03_Memory_has : fnOk cfg 107 fc_steadfastref03_Memory_has = true := by kernel_rfl
theorem ok_frames_Frames_State : fnOk cfg 108 fc_frames_Frames_State = true := by kernel_rfl
theorem ok_steadfastref04_Frames_State : fnOk cfg 109 fc_steadfastref04_Frames_State = true := by kernel_rfl
theorem ok_frames_set_has : fnOk cfg 110 fc_frames_set_has = true := by kernel_rfl
theorem cfg_D : ∀ g fc, D g = some fc → fnOk cfg g fc = true := by
  intro g fc h
  unfold D at h
  split at h
  · cases h; exact ok_steadfastlaw18_BankFull
  · cases h; exact ok_steadfastlaw18_BankEnds
  · cases h; exact ok_steadfastlaw18_shown
  · cases h; exact ok_steadfastlaw18_made
  · cases h; exact ok_caps_Word
  · cases h; exact ok_bank_Make
  · cases h; exact ok_caps_Of
  · cases h; exact ok_objects_Store_Names
  · cases h; exact ok_objects_Store_Get
  · cases h; exact ok_bank_End
  · cases h; exact ok_steadfastref18_End
  · cases h; exact ok_objects_Store_End
  · cases h; exact ok_caps_Diminish
  · cases h; exact ok_steadfastref07_Word
  · cases h; exact ok_entry_Names
  · cases h; exact ok_steadfastref07_Of
  · cases h; exact ok_nvm_Of
  · cases h; exact ok_steadfastref03_Of
  · cases h; exact ok_objects_Of
  · cases h; exact ok_steadfastref10_Of
  · cases h; exact ok_caps_may
  · cases h; exact ok_bank_by
  · cases h; exact ok_objects_Store_Next
  · cases h; exact ok_steadfastref10_Store_Names
  · cases h; exact ok_steadfastref10_Store_Get
  · cases h; exact ok_objects_Store_is
  · cases h; exact ok_nvm_Memory_Load
  · cases h; exact ok_steadfastref07_May
  · cases h; exact ok_objects_Store_own
  · cases h; exact ok_frames_Frames_Free
  · cases h; exact ok_entry_End
  · cases h; exact ok_caps_within
  · cases h; exact ok_steadfastref01_With
  · cases h; exact ok_steadfastref01_Field
  · cases h; exact ok_nvm_New
  · cases h; exact ok_frames_New
  · cases h; exact ok_nvm_Memory_Lines
  · cases h; exact ok_frames_Frames_Take
  · cases h; exact ok_objects_Store_share
  · cases h; exact ok_steadfastref04_New
  · cases h; exact ok_steadfastref10_lines
  · cases h; exact ok_steadfastref04_Frames_Take
  · cases h; exact ok_caps_May
  · cases h; exact ok_entry_Open
  · cases h; exact ok_steadfastref08_Names
  · cases h; exact ok_steadfastref10_Store_is
  · cases h; exact ok_steadfastref03_Memory_Load
  · cases h; exact ok_nvm_Memory_at
  · cases h; exact ok_frames_Frames_in
  · cases h; exact ok_frames_set_turn
  · cases h; exact ok_steadfastref01_is
  · cases h; exact ok_steadfastref01_bit
  · cases h; exact ok_objects_lines_add
  · cases h; exact ok_steadfastref04_Frames_turn
  · cases h; exact ok_steadfastref03_Memory_is
  · cases h; exact ok_steadfastref03_Memory_has
  · cases h; exact ok_frames_Frames_State
  · cases h; exact ok_steadfastref04_Frames_State
  · cases h; exact ok_frames_set_has
  · cases h
theorem ctx : Ctx cfg D := ⟨cfg_tab, cfg_tm, cfg_mix, cfg_D⟩
theorem own : ownKnob Try.prog.godebug = none := by kernel_rfl
theorem laidOut : laidOutB Try.prog = true := by kernel_rfl
end Go.Proofs.Ytpbpgbedkmbfkaa
