/-
  YtnffmibpblibdaaDoorChk: the printed code is the translation's: each function, and the layout of its types.
-/
import Derived.Test.YtnffmibpblibdaaDoorCode
import Derived.Test.YtnffmibpblibdaaDoorAbD
import Derived.Test.YtnffmibpblibdaaDoorChecked
set_option maxRecDepth 100000
namespace Go.Proofs.YtnffmibpblibdaaDoor
open Go.Ab
def tab : Tab := [
  (54, .st [10, 10, 10, 18], 4),
  (50, .arr 8 10, 8),
  (48, .arr 49 42, 147),
  (42, .st [10, 10, 10], 3),
  (26, .st [10, 10, 24], 10),
  (24, .arr 8 18, 8),
  (59, .st [1, 0, 0, 10, 10], 5),
  (43, .st [1, 1, 48, 48, 50, 48, 0, 82], 1476),
  (55, .st [24, 24, 1, 50], 25),
  (80, .st [10, 10, 78, 78], 34),
  (82, .arr 1024 0, 1024),
  (78, .arr 16 18, 16),
  (84, .st [10, 18], 2),
  (108, .arr 64 12, 64),
  (56, .row 54, 1),
  (20, .row 0, 1),
  (57, .row 55, 1),
  (86, .row 84, 1)]
def tyMap : List (Nat × Nat) := [(65, 1), (4, 0), (27, 1), (34, 1), (3, 10), (68, 54), (47, 18), (25, 50), (28, 10), (55, 48), (72, 50), (85, 1), (23, 42), (24, 48), (52, 26), (49, 24), (89, 1), (91, 59), (99, 43), (93, 1), (114, 1), (118, 55), (128, 80), (97, 82), (126, 78), (116, 1), (137, 84), (140, 1), (141, 1), (142, 108), (5, 12)]
def fnList : List Nat := [8, 9, 10, 12, 15, 16, 17, 18, 19, 20, 21, 22, 23, 25, 26, 27, 28, 32, 33, 34, 36, 37, 38, 39, 44, 45, 46, 47, 48, 49, 50, 51, 52, 56, 57, 58, 59, 60, 62, 63, 64, 66, 67, 68, 70]

def gls : GL := [(0, 0, 108)]
noncomputable def cfg : Cfg := ⟨Tryd.prog, tab, tyMap, gls⟩
theorem cfg_tab : tabOk tab = true := by kernel_rfl
theorem cfg_tm : tmOk cfg = true := by kernel_rfl
theorem cfg_mix : cfg.P.follows .mixedOrders = true := by kernel_rfl
theorem ok_steadfastlaw10_ObjectsFree : fnOk cfg 8 fc_steadfastlaw10_ObjectsFree = true := by kernel_rfl
theorem ok_steadfastlaw10_shown : fnOk cfg 9 fc_steadfastlaw10_shown = true := by kernel_rfl
theorem ok_nvm_New : fnOk cfg 10 fc_nvm_New = true := by kernel_rfl
theorem ok_objects_Of : fnOk cfg 12 fc_objects_Of = true := by kernel_rfl
theorem ok_steadfastlaw10_table : fnOk cfg 15 fc_steadfastlaw10_table = true := by kernel_rfl
theorem ok_steadfastlaw10_dir : fnOk cfg 16 fc_steadfastlaw10_dir = true := by kernel_rfl
theorem ok_steadfastlaw10_kind : fnOk cfg 17 fc_steadfastlaw10_kind = true := by kernel_rfl
theorem ok_objects_Store_Left : fnOk cfg 18 fc_objects_Store_Left = true := by kernel_rfl
theorem ok_objects_Store_Set : fnOk cfg 19 fc_objects_Store_Set = true := by kernel_rfl
theorem ok_objects_Store_Get : fnOk cfg 20 fc_objects_Store_Get = true := by kernel_rfl
theorem ok_objects_Store_Table : fnOk cfg 21 fc_objects_Store_Table = true := by kernel_rfl
theorem ok_objects_Store_Mark : fnOk cfg 22 fc_objects_Store_Mark = true := by kernel_rfl
theorem ok_objects_Store_Take : fnOk cfg 23 fc_objects_Store_Take = true := by kernel_rfl
theorem ok_objects_Store_Make : fnOk cfg 25 fc_objects_Store_Make = true := by kernel_rfl
theorem ok_objects_Store_End : fnOk cfg 26 fc_objects_Store_End = true := by kernel_rfl
theorem ok_nvm_Memory_Load : fnOk cfg 27 fc_nvm_Memory_Load = true := by kernel_rfl
theorem ok_objects_Store_Base : fnOk cfg 28 fc_objects_Store_Base = true := by kernel_rfl
theorem ok_objects_Store_Commit : fnOk cfg 32 fc_objects_Store_Commit = true := by kernel_rfl
theorem ok_objects_Store_Abort : fnOk cfg 33 fc_objects_Store_Abort = true := by kernel_rfl
theorem ok_objects_Store_Next : fnOk cfg 34 fc_objects_Store_Next = true := by kernel_rfl
theorem ok_frames_New : fnOk cfg 36 fc_frames_New = true := by kernel_rfl
theorem ok_nvm_Memory_Lines : fnOk cfg 37 fc_nvm_Memory_Lines = true := by kernel_rfl
theorem ok_frames_Frames_Take : fnOk cfg 38 fc_frames_Frames_Take = true := by kernel_rfl
theorem ok_objects_Store_share : fnOk cfg 39 fc_objects_Store_share = true := by kernel_rfl
theorem ok_frames_Frames_Left : fnOk cfg 44 fc_frames_Frames_Left = true := by kernel_rfl
theorem ok_objects_Store_is : fnOk cfg 45 fc_objects_Store_is = true := by kernel_rfl
theorem ok_objects_Store_own : fnOk cfg 46 fc_objects_Store_own = true := by kernel_rfl
theorem ok_nvm_Memory_Store : fnOk cfg 47 fc_nvm_Memory_Store = true := by kernel_rfl
theorem ok_objects_Store_lay : fnOk cfg 48 fc_objects_Store_lay = true := by kernel_rfl
theorem ok_frames_Frames_Alloc : fnOk cfg 49 fc_frames_Frames_Alloc = true := by kernel_rfl
theorem ok_frames_Frames_Free : fnOk cfg 50 fc_frames_Frames_Free = true := by kernel_rfl
theorem ok_entry_End : fnOk cfg 51 fc_entry_End = true := by kernel_rfl
theorem ok_nvm_Memory_at : fnOk cfg 52 fc_nvm_Memory_at = true := by kernel_rfl
theorem ok_objects_Store_unmark : fnOk cfg 56 fc_objects_Store_unmark = true := by kernel_rfl
theorem ok_entry_Open : fnOk cfg 57 fc_entry_Open = true := by kernel_rfl
theorem ok_frames_set_turn : fnOk cfg 58 fc_frames_set_turn = true := by kernel_rfl
theorem ok_frames_Frames_in : fnOk cfg 59 fc_frames_Frames_in = true := by kernel_rfl
theorem ok_objects_lines_add : fnOk cfg 60 fc_objects_lines_add = true := by kernel_rfl
theorem ok_math_bits_OnesCount64 : fnOk cfg 62 fc_math_bits_OnesCount64 = true := by kernel_rfl
theorem ok_nvm_Memory_step : fnOk cfg 63 fc_nvm_Memory_step = true := by kernel_rfl
theorem ok_math_bits_TrailingZeros64 : fnOk cfg 64 fc_math_bits_TrailingZeros64 = true := by kernel_rfl
theorem ok_frames_Frames_State : fnOk cfg 66 fc_frames_Frames_State = true := by kernel_rfl
theorem ok_frames_Frames_Later : fnOk cfg 67 fc_frames_Frames_Later = true := by kernel_rfl
theorem ok_frames_Frames_Settle : fnOk cfg 68 fc_frames_Frames_Settle = true := by kernel_rfl
theorem ok_frames_set_has : fnOk cfg 70 fc_frames_set_has = true := by kernel_rfl
theorem cfg_D : ∀ g fc, D g = some fc → fnOk cfg g fc = true := by
  intro g fc h
  unfold D at h
  split at h
  · cases h; exact ok_steadfastlaw10_ObjectsFree
  · cases h; exact ok_steadfastlaw10_shown
  · cases h; exact ok_nvm_New
  · cases h; exact ok_objects_Of
  · cases h; exact ok_steadfastlaw10_table
  · cases h; exact ok_steadfastlaw10_dir
  · cases h; exact ok_steadfastlaw10_kind
  · cases h; exact ok_objects_Store_Left
  · cases h; exact ok_objects_Store_Set
  · cases h; exact ok_objects_Store_Get
  · cases h; exact ok_objects_Store_Table
  · cases h; exact ok_objects_Store_Mark
  · cases h; exact ok_objects_Store_Take
  · cases h; exact ok_objects_Store_Make
  · cases h; exact ok_objects_Store_End
  · cases h; exact ok_nvm_Memory_Load
  · cases h; exact ok_objects_Store_Base
  · cases h; exact ok_objects_Store_Commit
  · cases h; exact ok_objects_Store_Abort
  · cases h; exact ok_objects_Store_Next
  · cases h; exact ok_frames_New
  · cases h; exact ok_nvm_Memory_Lines
  · cases h; exact ok_frames_Frames_Take
  · cases h; exact ok_objects_Store_share
  · cases h; exact ok_frames_Frames_Left
  · cases h; exact ok_objects_Store_is
  · cases h; exact ok_objects_Store_own
  · cases h; exact ok_nvm_Memory_Store
  · cases h; exact ok_objects_Store_lay
  · cases h; exact ok_frames_Frames_Alloc
  · cases h; exact ok_frames_Frames_Free
  · cases h; exact ok_entry_End
  · cases h; exact ok_nvm_Memory_at
  · cases h; exact ok_objects_Store_unmark
  · cases h; exact ok_entry_Open
  · cases h; exact ok_frames_set_turn
  · cases h; exact ok_frames_Frames_in
  · cases h; exact ok_objects_lines_add
  · cases h; exact ok_math_bits_OnesCount64
  · cases h; exact ok_nvm_Memory_step
  · cases h; exact ok_math_bits_TrailingZeros64
  · cases h; exact ok_frames_Frames_State
  · cases h; exact ok_frames_Frames_Later
  · cases h; exact ok_frames_Frames_Settle
  · cases h; exact ok_frames_set_has
  · cases h
theorem ctx : Ctx cfg D := ⟨cfg_tab, cfg_tm, cfg_mix, cfg_D⟩
theorem own : ownKnob Tryd.prog.godebug = none := by kernel_rfl
theorem laidOut : laidOutB Tryd.prog = true := by kernel_rfl
end Go.Proofs.YtnffmibpblibdaaDoor
