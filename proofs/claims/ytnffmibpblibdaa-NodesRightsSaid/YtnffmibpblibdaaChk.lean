/-
  YtnffmibpblibdaaChk: the printed code is the translation's: each function, and the layout of its types.
-/
import Derived.Test.YtnffmibpblibdaaCode
import Derived.Test.YtnffmibpblibdaaAbD
import Derived.Test.YtnffmibpblibdaaChecked
set_option maxRecDepth 100000
namespace Go.Proofs.Ytnffmibpblibdaa
open Go.Ab
def tab : Tab := [
  (22, .arr 2 10, 2),
  (46, .arr 2 18, 2),
  (40, .st [10, 10, 10, 10, 10], 5),
  (24, .arr 8 18, 8),
  (26, .st [10, 10, 24], 10),
  (48, .arr 49 42, 147),
  (42, .st [10, 10, 10], 3),
  (50, .arr 8 10, 8),
  (59, .st [1, 0, 0, 10, 10], 5),
  (55, .st [24, 24, 1, 50], 25),
  (33, .st [1, 1, 0, 10, 10], 5),
  (43, .st [1, 1, 48, 48, 50, 48, 0, 82], 1476),
  (31, .st [1, 1, 48, 48, 50, 48, 0], 452),
  (80, .st [10, 10, 78, 78], 34),
  (82, .arr 1024 0, 1024),
  (21, .st [10, 1], 2),
  (78, .arr 16 18, 16),
  (90, .st [10, 18, 88], 10),
  (88, .arr 8 0, 8),
  (84, .st [10, 18], 2),
  (28, .row 26, 1),
  (58, .row 24, 1),
  (53, .row 1, 1),
  (57, .row 55, 1),
  (38, .row 10, 1),
  (92, .row 90, 1),
  (86, .row 84, 1)]
def tyMap : List (Nat × Nat) := [(22, 1), (23, 18), (24, 22), (4, 0), (26, 1), (3, 10), (30, 10), (39, 46), (47, 40), (52, 24), (54, 26), (27, 1), (57, 1), (60, 48), (59, 42), (61, 50), (62, 1), (108, 1), (86, 59), (84, 1), (83, 55), (65, 1), (87, 1), (89, 33), (90, 48), (91, 50), (99, 43), (104, 1), (104, 1), (107, 31), (73, 1), (92, 1), (119, 80), (97, 82), (101, 1), (124, 21), (126, 1), (130, 1), (131, 1), (117, 78), (133, 1), (136, 90), (81, 1), (134, 88), (153, 84)]
def fnList : List Nat := [3, 4, 5, 6, 7, 8, 9, 10, 11, 12, 13, 14, 15, 16, 17, 18, 19, 20, 21, 22, 23, 24, 25, 26, 27, 28, 29, 30, 31, 32, 33, 34, 35, 36, 37, 38, 39, 40, 41, 42, 43, 44, 45, 46, 47, 48, 49, 50, 51, 52, 53, 54, 55, 56, 57, 58, 59, 60, 61, 62, 63, 64, 65, 66, 67]

def gls : GL := []
noncomputable def cfg : Cfg := ⟨Try.prog, tab, tyMap, gls⟩
theorem cfg_tab : tabOk tab = true := by kernel_rfl
theorem cfg_tm : tmOk cfg = true := by kernel_rfl
theorem cfg_mix : cfg.P.follows .mixedOrders = true := by kernel_rfl
theorem ok_steadfastlaw17_NodesSlots : fnOk cfg 3 fc_steadfastlaw17_NodesSlots = true := by kernel_rfl
theorem ok_steadfastlaw17_NodesMints : fnOk cfg 4 fc_steadfastlaw17_NodesMints = true := by kernel_rfl
theorem ok_steadfastlaw17_NodesCopies : fnOk cfg 5 fc_steadfastlaw17_NodesCopies = true := by kernel_rfl
theorem ok_steadfastlaw17_NodesRights : fnOk cfg 6 fc_steadfastlaw17_NodesRights = true := by kernel_rfl
theorem ok_steadfastlaw17_shown : fnOk cfg 7 fc_steadfastlaw17_shown = true := by kernel_rfl
theorem ok_steadfastlaw17_made : fnOk cfg 8 fc_steadfastlaw17_made = true := by kernel_rfl
theorem ok_nodes_Slot : fnOk cfg 9 fc_nodes_Slot = true := by kernel_rfl
theorem ok_steadfastref17_Slot : fnOk cfg 10 fc_steadfastref17_Slot = true := by kernel_rfl
theorem ok_nodes_Mint : fnOk cfg 11 fc_nodes_Mint = true := by kernel_rfl
theorem ok_steadfastref17_Mint : fnOk cfg 12 fc_steadfastref17_Mint = true := by kernel_rfl
theorem ok_caps_Within : fnOk cfg 13 fc_caps_Within = true := by kernel_rfl
theorem ok_nodes_Copy : fnOk cfg 14 fc_nodes_Copy = true := by kernel_rfl
theorem ok_steadfastref17_Copy : fnOk cfg 15 fc_steadfastref17_Copy = true := by kernel_rfl
theorem ok_nodes_Take : fnOk cfg 16 fc_nodes_Take = true := by kernel_rfl
theorem ok_steadfastref17_Take : fnOk cfg 17 fc_steadfastref17_Take = true := by kernel_rfl
theorem ok_caps_May : fnOk cfg 18 fc_caps_May = true := by kernel_rfl
theorem ok_caps_Of : fnOk cfg 19 fc_caps_Of = true := by kernel_rfl
theorem ok_caps_Word : fnOk cfg 20 fc_caps_Word = true := by kernel_rfl
theorem ok_steadfastref07_Word : fnOk cfg 21 fc_steadfastref07_Word = true := by kernel_rfl
theorem ok_nvm_Of : fnOk cfg 22 fc_nvm_Of = true := by kernel_rfl
theorem ok_steadfastref03_Of : fnOk cfg 23 fc_steadfastref03_Of = true := by kernel_rfl
theorem ok_objects_Of : fnOk cfg 24 fc_objects_Of = true := by kernel_rfl
theorem ok_steadfastref10_Of : fnOk cfg 25 fc_steadfastref10_Of = true := by kernel_rfl
theorem ok_nodes_first : fnOk cfg 26 fc_nodes_first = true := by kernel_rfl
theorem ok_nodes_Slot_1 : fnOk cfg 27 fc_nodes_Slot_1 = true := by kernel_rfl
theorem ok_nodes_Slot_2 : fnOk cfg 28 fc_nodes_Slot_2 = true := by kernel_rfl
theorem ok_objects_Store_Names : fnOk cfg 29 fc_objects_Store_Names = true := by kernel_rfl
theorem ok_nodes_Slot_3 : fnOk cfg 30 fc_nodes_Slot_3 = true := by kernel_rfl
theorem ok_objects_Store_Get : fnOk cfg 31 fc_objects_Store_Get = true := by kernel_rfl
theorem ok_steadfastref07_May : fnOk cfg 32 fc_steadfastref07_May = true := by kernel_rfl
theorem ok_steadfastref10_Store_Names : fnOk cfg 33 fc_steadfastref10_Store_Names = true := by kernel_rfl
theorem ok_steadfastref10_Store_Get : fnOk cfg 34 fc_steadfastref10_Store_Get = true := by kernel_rfl
theorem ok_caps_Diminish : fnOk cfg 35 fc_caps_Diminish = true := by kernel_rfl
theorem ok_steadfastref07_Diminish : fnOk cfg 36 fc_steadfastref07_Diminish = true := by kernel_rfl
theorem ok_steadfastref07_Of : fnOk cfg 37 fc_steadfastref07_Of = true := by kernel_rfl
theorem ok_caps_may : fnOk cfg 38 fc_caps_may = true := by kernel_rfl
theorem ok_steadfastref01_With : fnOk cfg 39 fc_steadfastref01_With = true := by kernel_rfl
theorem ok_nvm_New : fnOk cfg 40 fc_nvm_New = true := by kernel_rfl
theorem ok_frames_New : fnOk cfg 41 fc_frames_New = true := by kernel_rfl
theorem ok_nvm_Memory_Lines : fnOk cfg 42 fc_nvm_Memory_Lines = true := by kernel_rfl
theorem ok_frames_Frames_Take : fnOk cfg 43 fc_frames_Frames_Take = true := by kernel_rfl
theorem ok_objects_Store_share : fnOk cfg 44 fc_objects_Store_share = true := by kernel_rfl
theorem ok_steadfastref04_New : fnOk cfg 45 fc_steadfastref04_New = true := by kernel_rfl
theorem ok_steadfastref10_lines : fnOk cfg 46 fc_steadfastref10_lines = true := by kernel_rfl
theorem ok_steadfastref04_Frames_Take : fnOk cfg 47 fc_steadfastref04_Frames_Take = true := by kernel_rfl
theorem ok_entry_Names : fnOk cfg 48 fc_entry_Names = true := by kernel_rfl
theorem ok_objects_Store_is : fnOk cfg 49 fc_objects_Store_is = true := by kernel_rfl
theorem ok_nvm_Memory_Load : fnOk cfg 50 fc_nvm_Memory_Load = true := by kernel_rfl
theorem ok_steadfastref08_Names : fnOk cfg 51 fc_steadfastref08_Names = true := by kernel_rfl
theorem ok_steadfastref10_Store_is : fnOk cfg 52 fc_steadfastref10_Store_is = true := by kernel_rfl
theorem ok_steadfastref03_Memory_Load : fnOk cfg 53 fc_steadfastref03_Memory_Load = true := by kernel_rfl
theorem ok_caps_within : fnOk cfg 54 fc_caps_within = true := by kernel_rfl
theorem ok_steadfastref01_Field : fnOk cfg 55 fc_steadfastref01_Field = true := by kernel_rfl
theorem ok_steadfastref01_is : fnOk cfg 56 fc_steadfastref01_is = true := by kernel_rfl
theorem ok_steadfastref01_bit : fnOk cfg 57 fc_steadfastref01_bit = true := by kernel_rfl
theorem ok_frames_set_turn : fnOk cfg 58 fc_frames_set_turn = true := by kernel_rfl
theorem ok_frames_Frames_in : fnOk cfg 59 fc_frames_Frames_in = true := by kernel_rfl
theorem ok_objects_lines_add : fnOk cfg 60 fc_objects_lines_add = true := by kernel_rfl
theorem ok_steadfastref04_Frames_turn : fnOk cfg 61 fc_steadfastref04_Frames_turn = true := by kernel_rfl
theorem ok_nvm_Memory_at : fnOk cfg 62 fc_nvm_Memory_at = true := by kernel_rfl
theorem ok_steadfastref03_Memory_is : fnOk cfg 63 fc_steadfastref03_Memory_is = true := by kernel_rfl
theorem ok_steadfastref03_Memory_has : fnOk cfg 64 fc_steadfastref03_Memory_has = true := by kernel_rfl
theorem ok_frames_Frames_State : fnOk cfg 65 fc_frames_Frames_State = true := by kernel_rfl
theorem ok_steadfastref04_Frames_State : fnOk cfg 66 fc_steadfastref04_Frames_State = true := by kernel_rfl
theorem ok_frames_set_has : fnOk cfg 67 fc_frames_set_has = true := by kernel_rfl
theorem cfg_D : ∀ g fc, D g = some fc → fnOk cfg g fc = true := by
  intro g fc h
  unfold D at h
  split at h
  · cases h; exact ok_steadfastlaw17_NodesSlots
  · cases h; exact ok_steadfastlaw17_NodesMints
  · cases h; exact ok_steadfastlaw17_NodesCopies
  · cases h; exact ok_steadfastlaw17_NodesRights
  · cases h; exact ok_steadfastlaw17_shown
  · cases h; exact ok_steadfastlaw17_made
  · cases h; exact ok_nodes_Slot
  · cases h; exact ok_steadfastref17_Slot
  · cases h; exact ok_nodes_Mint
  · cases h; exact ok_steadfastref17_Mint
  · cases h; exact ok_caps_Within
  · cases h; exact ok_nodes_Copy
  · cases h; exact ok_steadfastref17_Copy
  · cases h; exact ok_nodes_Take
  · cases h; exact ok_steadfastref17_Take
  · cases h; exact ok_caps_May
  · cases h; exact ok_caps_Of
  · cases h; exact ok_caps_Word
  · cases h; exact ok_steadfastref07_Word
  · cases h; exact ok_nvm_Of
  · cases h; exact ok_steadfastref03_Of
  · cases h; exact ok_objects_Of
  · cases h; exact ok_steadfastref10_Of
  · cases h; exact ok_nodes_first
  · cases h; exact ok_nodes_Slot_1
  · cases h; exact ok_nodes_Slot_2
  · cases h; exact ok_objects_Store_Names
  · cases h; exact ok_nodes_Slot_3
  · cases h; exact ok_objects_Store_Get
  · cases h; exact ok_steadfastref07_May
  · cases h; exact ok_steadfastref10_Store_Names
  · cases h; exact ok_steadfastref10_Store_Get
  · cases h; exact ok_caps_Diminish
  · cases h; exact ok_steadfastref07_Diminish
  · cases h; exact ok_steadfastref07_Of
  · cases h; exact ok_caps_may
  · cases h; exact ok_steadfastref01_With
  · cases h; exact ok_nvm_New
  · cases h; exact ok_frames_New
  · cases h; exact ok_nvm_Memory_Lines
  · cases h; exact ok_frames_Frames_Take
  · cases h; exact ok_objects_Store_share
  · cases h; exact ok_steadfastref04_New
  · cases h; exact ok_steadfastref10_lines
  · cases h; exact ok_steadfastref04_Frames_Take
  · cases h; exact ok_entry_Names
  · cases h; exact ok_objects_Store_is
  · cases h; exact ok_nvm_Memory_Load
  · cases h; exact ok_steadfastref08_Names
  · cases h; exact ok_steadfastref10_Store_is
  · cases h; exact ok_steadfastref03_Memory_Load
  · cases h; exact ok_caps_within
  · cases h; exact ok_steadfastref01_Field
  · cases h; exact ok_steadfastref01_is
  · cases h; exact ok_steadfastref01_bit
  · cases h; exact ok_frames_set_turn
  · cases h; exact ok_frames_Frames_in
  · cases h; exact ok_objects_lines_add
  · cases h; exact ok_steadfastref04_Frames_turn
  · cases h; exact ok_nvm_Memory_at
  · cases h; exact ok_steadfastref03_Memory_is
  · cases h; exact ok_steadfastref03_Memory_has
  · cases h; exact ok_frames_Frames_State
  · cases h; exact ok_steadfastref04_Frames_State
  · cases h; exact ok_frames_set_has
  · cases h
theorem ctx : Ctx cfg D := ⟨cfg_tab, cfg_tm, cfg_mix, cfg_D⟩
theorem own : ownKnob Try.prog.godebug = none := by kernel_rfl
theorem laidOut : laidOutB Try.prog = true := by kernel_rfl
end Go.Proofs.Ytnffmibpblibdaa
