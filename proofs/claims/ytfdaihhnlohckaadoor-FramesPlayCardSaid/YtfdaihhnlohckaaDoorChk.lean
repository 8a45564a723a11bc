/-
  YtfdaihhnlohckaaDoorChk: the printed code is the translation's: each function, and the layout of its types.
-/
import Derived.Test.YtfdaihhnlohckaaDoorCode
import Derived.Test.YtfdaihhnlohckaaDoorAb22
import Derived.Test.YtfdaihhnlohckaaDoorChecked
set_option maxRecDepth 100000
namespace Go.Proofs.YtfdaihhnlohckaaDoor
open Go.Ab
def tab : Tab := [
  (34, .st [10, 10], 2),
  (21, .st [10, 1], 2),
  (80, .st [10, 10, 78, 78], 34),
  (78, .arr 16 18, 16),
  (108, .arr 64 12, 64),
  (36, .row 34, 1),
  (20, .row 0, 1),
  (38, .row 10, 1)]
def tyMap : List (Nat × Nat) := [(22, 1), (4, 0), (24, 1), (28, 1), (3, 10), (31, 34), (25, 10), (38, 18), (47, 21), (45, 1), (52, 80), (50, 78), (41, 1), (58, 1), (59, 108), (5, 12)]
def fnList : List Nat := [3, 4, 5, 6, 7, 8, 9, 10, 11, 12, 13, 14, 15, 16, 17, 18, 19, 20, 21, 22, 23, 24, 25, 26, 27, 28, 29, 30, 31, 32]

def gls : GL := [(0, 0, 108)]
noncomputable def cfg : Cfg := ⟨Tryd.prog, tab, tyMap, gls⟩
theorem cfg_tab : tabOk tab = true := by kernel_rfl
theorem cfg_tm : tmOk cfg = true := by kernel_rfl
theorem cfg_mix : cfg.P.follows .mixedOrders = true := by kernel_rfl
theorem ok_steadfastlaw04_FramesOnce : fnOk cfg 3 fc_steadfastlaw04_FramesOnce = true := by kernel_rfl
theorem ok_steadfastlaw04_FramesSettled : fnOk cfg 4 fc_steadfastlaw04_FramesSettled = true := by kernel_rfl
theorem ok_steadfastlaw04_FramesLeft : fnOk cfg 5 fc_steadfastlaw04_FramesLeft = true := by kernel_rfl
theorem ok_steadfastlaw04_FramesFirst : fnOk cfg 6 fc_steadfastlaw04_FramesFirst = true := by kernel_rfl
theorem ok_steadfastlaw04_FramesPlay : fnOk cfg 7 fc_steadfastlaw04_FramesPlay = true := by kernel_rfl
theorem ok_steadfastlaw04_shown : fnOk cfg 8 fc_steadfastlaw04_shown = true := by kernel_rfl
theorem ok_frames_New : fnOk cfg 9 fc_frames_New = true := by kernel_rfl
theorem ok_steadfastlaw04_kind : fnOk cfg 10 fc_steadfastlaw04_kind = true := by kernel_rfl
theorem ok_frames_Frames_Alloc : fnOk cfg 11 fc_frames_Frames_Alloc = true := by kernel_rfl
theorem ok_frames_Frames_Left : fnOk cfg 12 fc_frames_Frames_Left = true := by kernel_rfl
theorem ok_frames_Frames_Free : fnOk cfg 13 fc_frames_Frames_Free = true := by kernel_rfl
theorem ok_frames_Frames_Later : fnOk cfg 14 fc_frames_Frames_Later = true := by kernel_rfl
theorem ok_frames_Frames_Settle : fnOk cfg 15 fc_frames_Frames_Settle = true := by kernel_rfl
theorem ok_frames_Frames_State : fnOk cfg 16 fc_frames_Frames_State = true := by kernel_rfl
theorem ok_frames_Frames_Take : fnOk cfg 17 fc_frames_Frames_Take = true := by kernel_rfl
theorem ok_steadfastref04_New : fnOk cfg 18 fc_steadfastref04_New = true := by kernel_rfl
theorem ok_steadfastref04_Frames_Alloc : fnOk cfg 19 fc_steadfastref04_Frames_Alloc = true := by kernel_rfl
theorem ok_steadfastref04_Frames_Take : fnOk cfg 20 fc_steadfastref04_Frames_Take = true := by kernel_rfl
theorem ok_steadfastref04_Frames_Free : fnOk cfg 21 fc_steadfastref04_Frames_Free = true := by kernel_rfl
theorem ok_steadfastref04_Frames_Later : fnOk cfg 22 fc_steadfastref04_Frames_Later = true := by kernel_rfl
theorem ok_steadfastref04_Frames_Settle : fnOk cfg 23 fc_steadfastref04_Frames_Settle = true := by kernel_rfl
theorem ok_frames_Frames_Clone : fnOk cfg 24 fc_frames_Frames_Clone = true := by kernel_rfl
theorem ok_steadfastref04_Frames_Left : fnOk cfg 25 fc_steadfastref04_Frames_Left = true := by kernel_rfl
theorem ok_steadfastref04_Frames_State : fnOk cfg 26 fc_steadfastref04_Frames_State = true := by kernel_rfl
theorem ok_frames_set_turn : fnOk cfg 27 fc_frames_set_turn = true := by kernel_rfl
theorem ok_math_bits_TrailingZeros64 : fnOk cfg 28 fc_math_bits_TrailingZeros64 = true := by kernel_rfl
theorem ok_math_bits_OnesCount64 : fnOk cfg 29 fc_math_bits_OnesCount64 = true := by kernel_rfl
theorem ok_frames_Frames_in : fnOk cfg 30 fc_frames_Frames_in = true := by kernel_rfl
theorem ok_frames_set_has : fnOk cfg 31 fc_frames_set_has = true := by kernel_rfl
theorem ok_steadfastref04_Frames_turn : fnOk cfg 32 fc_steadfastref04_Frames_turn = true := by kernel_rfl
theorem cfg_D : ∀ g fc, D g = some fc → fnOk cfg g fc = true := by
  intro g fc h
  unfold D at h
  split at h
  · cases h; exact ok_steadfastlaw04_FramesOnce
  · cases h; exact ok_steadfastlaw04_FramesSettled
  · cases h; exact ok_steadfastlaw04_FramesLeft
  · cases h; exact ok_steadfastlaw04_FramesFirst
  · cases h; exact ok_steadfastlaw04_FramesPlay
  · cases h; exact ok_steadfastlaw04_shown
  · cases h; exact ok_frames_New
  · cases h; exact ok_steadfastlaw04_kind
  · cases h; exact ok_frames_Frames_Alloc
  · cases h; exact ok_frames_Frames_Left
  · cases h; exact ok_frames_Frames_Free
  · cases h; exact ok_frames_Frames_Later
  · cases h; exact ok_frames_Frames_Settle
  · cases h; exact ok_frames_Frames_State
  · cases h; exact ok_frames_Frames_Take
  · cases h; exact ok_steadfastref04_New
  · cases h; exact ok_steadfastref04_Frames_Alloc
  · cases h; exact ok_steadfastref04_Frames_Take
  · cases h; exact ok_steadfastref04_Frames_Free
  · cases h; exact ok_steadfastref04_Frames_Later
  · cases h; exact ok_steadfastref04_Frames_Settle
  · cases h; exact ok_frames_Frames_Clone
  · cases h; exact ok_steadfastref04_Frames_Left
  · cases h; exact ok_steadfastref04_Frames_State
  · cases h; exact ok_frames_set_turn
  · cases h; exact ok_math_bits_TrailingZeros64
  · cases h; exact ok_math_bits_OnesCount64
  · cases h; exact ok_frames_Frames_in
  · cases h; exact ok_frames_set_has
  · cases h; exact ok_steadfastref04_Frames_turn
  · cases h
theorem ctx : Ctx cfg D := ⟨cfg_tab, cfg_tm, cfg_mix, cfg_D⟩
theorem own : ownKnob Tryd.prog.godebug = none := by kernel_rfl
theorem laidOut : laidOutB Tryd.prog = true := by kernel_rfl
end Go.Proofs.YtfdaihhnlohckaaDoor
