/-
  YtilcajpldklbiaaDoorChk: the printed code is the translation's: each function, and the layout of its types.
-/
import Derived.Test.YtilcajpldklbiaaDoorCode
import Derived.Test.YtilcajpldklbiaaDoorAbD
import Derived.Test.YtilcajpldklbiaaDoorChecked
set_option maxRecDepth 100000
namespace Go.Proofs.YtilcajpldklbiaaDoor
open Go.Ab
def tab : Tab := [
 (21, .st [10, 1], 2),
 (26, .st [10, 10, 24], 10),
 (54, .st [10, 10, 10, 18], 4),
 (24, .arr 8 18, 8),
 (41, .st [1, 44, 10, 10], 7),
 (59, .st [1, 0, 0, 10, 10], 5),
 (67, .st [1, 10, 10], 3),
 (48, .arr 49 42, 147),
 (42, .st [10, 10, 10], 3),
 (60, .arr 7 10, 7),
 (44, .st [10, 10, 10, 10], 4),
 (50, .arr 8 10, 8),
 (43, .st [1, 1, 48, 48, 50, 48, 0, 82], 1476),
 (55, .st [24, 24, 1, 50], 25),
 (84, .st [10, 18], 2),
 (73, .st [1, 10, 1], 3),
 (94, .arr 7 42, 21),
 (108, .arr 64 12, 64),
 (110, .arr 2 24, 16),
 (80, .st [10, 10, 78, 78], 34),
 (82, .arr 1024 0, 1024),
 (78, .arr 16 18, 16),
 (28, .row 26, 1),
 (52, .row 18, 1),
 (38, .row 10, 1),
 (57, .row 55, 1),
 (56, .row 54, 1),
 (86, .row 84, 1),
 (96, .row 42, 1),
 (104, .row 12, 1)]
def MW : List (Nat × Nat) := [(34, 1), (47, 1), (50, 21), (4, 0), (26, 1), (3, 10), (33, 26), (27, 10), (22, 18), (24, 54), (31, 24), (48, 1), (41, 41), (37, 1), (55, 1), (57, 59), (63, 67), (73, 48), (71, 42), (75, 60), (39, 44), (88, 50), (91, 1), (98, 43), (103, 55), (101, 1), (87, 50), (60, 1), (67, 1), (100, 1), (106, 84), (118, 73), (122, 94), (125, 1), (125, 1), (94, 1), (134, 108), (112, 1), (141, 110), (115, 1), (116, 1), (150, 80), (96, 82), (129, 1), (148, 78), (5, 12), (138, 1), (136, 16), (157, 1), (158, 1), (133, 18)]
def gls : GL := [(0, 0, 108)]
noncomputable def cfg : Cfg := ⟨Tryd.prog, tab, MW, gls⟩
theorem Kt : aD tab = true := by kernel_rfl
theorem Mr : f7 cfg = true := by kernel_rfl
theorem JF : cfg.P.follows .mixedOrders = true := by kernel_rfl
theorem MT : ∀ g fc, D g = some fc → C6 cfg g fc = true := fun g fc h => Jb (p := C6 cfg) (by kernel_rfl) (show lkT dT g = some fc from h)
theorem ctx : Ctx cfg D := ⟨Kt, Mr, JF, MT⟩
theorem own : ownKnob Tryd.prog.godebug = none := by kernel_rfl
theorem Kk : laidOutB Tryd.prog = true := by kernel_rfl
end Go.Proofs.YtilcajpldklbiaaDoor
