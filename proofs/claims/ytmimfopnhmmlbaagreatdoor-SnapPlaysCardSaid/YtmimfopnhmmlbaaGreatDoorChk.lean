/-
  YtmimfopnhmmlbaaGreatDoorChk: the printed code is the translation's: each function, and the layout of its types.
-/
import Derived.Test.YtmimfopnhmmlbaaGreatDoorCode
import Derived.Test.YtmimfopnhmmlbaaGreatDoorAbD
import Derived.Test.YtmimfopnhmmlbaaGreatDoorChecked
set_option maxRecDepth 100000
namespace Go.Proofs.YtmimfopnhmmlbaaGreatDoor
open Go.Ab
def tab : Tab := [
 (22, .arr 2 10, 2),
 (54, .st [10, 10, 10, 18], 4),
 (44, .st [10, 10, 10, 10], 4),
 (48, .arr 49 42, 147),
 (50, .arr 8 10, 8),
 (35, .st [1, 1, 44, 10, 1, 10, 50], 17),
 (31, .st [1, 1, 48, 48, 50, 48, 0], 452),
 (33, .st [1, 1, 0, 10, 10], 5),
 (24, .arr 8 18, 8),
 (60, .arr 7 10, 7),
 (42, .st [10, 10, 10], 3),
 (59, .st [1, 0, 0, 10, 10], 5),
 (43, .st [1, 1, 48, 48, 50, 48, 0, 82], 1476),
 (61, .st [1, 1, 44, 10, 1, 10, 48, 50], 164),
 (82, .arr 1024 0, 1024),
 (47, .st [1, 10], 2),
 (34, .st [10, 10], 2),
 (55, .st [24, 24, 1, 50], 25),
 (21, .st [10, 1], 2),
 (84, .st [10, 18], 2),
 (80, .st [10, 10, 78, 78], 34),
 (78, .arr 16 18, 16),
 (90, .st [10, 18, 88], 10),
 (94, .arr 7 42, 21),
 (108, .arr 64 12, 64),
 (88, .arr 8 0, 8),
 (56, .row 54, 1),
 (36, .row 34, 1),
 (58, .row 24, 1),
 (53, .row 1, 1),
 (38, .row 10, 1),
 (63, .row 47, 1),
 (57, .row 55, 1),
 (86, .row 84, 1),
 (92, .row 90, 1),
 (104, .row 12, 1)]
def P3 : List (Nat × Nat) := [(22, 22), (23, 1), (3, 10), (4, 0), (28, 1), (54, 54), (52, 18), (32, 10), (26, 1), (27, 1), (49, 44), (66, 48), (67, 50), (72, 35), (70, 1), (76, 31), (42, 48), (44, 50), (74, 1), (79, 33), (35, 1), (83, 24), (31, 1), (77, 1), (94, 60), (37, 1), (100, 1), (100, 1), (41, 42), (46, 1), (114, 59), (120, 43), (116, 1), (128, 61), (126, 1), (117, 82), (134, 47), (137, 34), (132, 1), (112, 1), (143, 55), (141, 1), (150, 21), (153, 1), (118, 82), (146, 84), (175, 80), (173, 78), (179, 1), (182, 90), (160, 94), (201, 108), (208, 1), (188, 1), (180, 88), (212, 1), (5, 12), (205, 1), (203, 16)]
def gls : GL := [(0, 0, 108)]
noncomputable def cfg : Cfg := ⟨Tryz.prog, tab, P3, gls⟩
theorem Nb : aI tab = true := by kernel_rfl
theorem OE : i5 cfg = true := by kernel_rfl
theorem NE : cfg.P.follows .mixedOrders = true := by kernel_rfl
theorem Qi : ∀ g fc, D g = some fc → Gb cfg g fc = true := fun g fc h => Du (p := Gb cfg) (by kernel_rfl) (show lkT dT g = some fc from h)
theorem ctx : Ctx cfg D := ⟨Nb, OE, NE, Qi⟩
theorem own : ownKnob Tryz.prog.godebug = none := by kernel_rfl
theorem Nh : laidOutB Tryz.prog = true := by kernel_rfl
end Go.Proofs.YtmimfopnhmmlbaaGreatDoor
