/-
  YtmimfopnhmmlbaaGreatDoorChk: the printed code is the translation's: each function, and the layout of its types.
-/
import Derived.Test.YtmimfopnhmmlbaaGreatDoorCode
import Derived.Test.YtmimfopnhmmlbaaGreatDoorAbD
import Derived.Test.YtmimfopnhmmlbaaGreatDoorChecked
set_option maxRecDepth 100000
namespace Go.Proofs.YtmimfopnhmmlbaaGreatDoor
open Go.Ab
def tab : Tab := [
 (48, .arr 49 42, 147),
 (54, .st [10, 10, 10, 18], 4),
 (30, .arr 49 26, 490),
 (26, .st [10, 10, 24], 10),
 (44, .st [10, 10, 10, 10], 4),
 (60, .arr 7 10, 7),
 (42, .st [10, 10, 10], 3),
 (24, .arr 8 18, 8),
 (50, .arr 8 10, 8),
 (59, .st [1, 0, 0, 10, 10], 5),
 (43, .st [1, 1, 48, 48, 50, 48, 0, 82], 1476),
 (61, .st [1, 1, 44, 10, 1, 10, 48, 50], 164),
 (82, .arr 1024 0, 1024),
 (47, .st [1, 10], 2),
 (55, .st [24, 24, 1, 50], 25),
 (73, .st [1, 10, 1], 3),
 (94, .arr 7 42, 21),
 (84, .st [10, 18], 2),
 (80, .st [10, 10, 78, 78], 34),
 (78, .arr 16 18, 16),
 (110, .arr 2 24, 16),
 (108, .arr 64 12, 64),
 (56, .row 54, 1),
 (38, .row 10, 1),
 (58, .row 24, 1),
 (63, .row 47, 1),
 (57, .row 55, 1),
 (86, .row 84, 1),
 (96, .row 42, 1),
 (104, .row 12, 1)]
def Ps : List (Nat × Nat) := [(23, 1), (3, 10), (100, 1), (4, 0), (28, 1), (66, 48), (54, 54), (88, 30), (87, 26), (49, 44), (94, 60), (32, 10), (41, 42), (83, 24), (26, 1), (27, 1), (35, 1), (42, 48), (44, 50), (114, 59), (52, 18), (120, 43), (116, 1), (128, 61), (126, 1), (67, 50), (117, 82), (134, 47), (132, 1), (112, 1), (143, 55), (141, 1), (157, 73), (160, 94), (163, 1), (163, 1), (153, 1), (118, 82), (146, 84), (175, 80), (173, 78), (193, 110), (154, 1), (155, 1), (201, 108), (208, 1), (188, 1), (212, 1), (5, 12), (205, 1), (203, 16)]
def gls : GL := [(0, 0, 108)]
noncomputable def cfg : Cfg := ⟨Tryz.prog, tab, Ps, gls⟩
theorem Mr : aG tab = true := by kernel_rfl
theorem N5 : gj cfg = true := by kernel_rfl
theorem Ni : cfg.P.follows .mixedOrders = true := by kernel_rfl
theorem PL : ∀ g fc, D g = some fc → EP cfg g fc = true := fun g fc h => CV (p := EP cfg) (by kernel_rfl) (show lkT dT g = some fc from h)
theorem ctx : Ctx cfg D := ⟨Mr, N5, Ni, PL⟩
theorem own : ownKnob Tryz.prog.godebug = none := by kernel_rfl
theorem KT : laidOutB Tryz.prog = true := by kernel_rfl
end Go.Proofs.YtmimfopnhmmlbaaGreatDoor
