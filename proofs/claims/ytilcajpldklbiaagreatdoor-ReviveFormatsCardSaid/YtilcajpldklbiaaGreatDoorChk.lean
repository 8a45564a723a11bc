/-
  YtilcajpldklbiaaGreatDoorChk: the printed code is the translation's: each function, and the layout of its types.
-/
import Derived.Test.YtilcajpldklbiaaGreatDoorCode
import Derived.Test.YtilcajpldklbiaaGreatDoorAbD
import Derived.Test.YtilcajpldklbiaaGreatDoorChecked
set_option maxRecDepth 100000
namespace Go.Proofs.YtilcajpldklbiaaGreatDoor
open Go.Ab
def tab:Tab:=[
 (22,.arr 2 10,2),
 (21,.st [10,1],2),
 (33,.st [1,1,0,10,10],5),
 (41,.st [1,44,10,10],7),
 (24,.arr 8 18,8),
 (26,.st [10,10,24],10),
 (54,.st [10,10,10,18],4),
 (44,.st [10,10,10,10],4),
 (48,.arr 49 42,147),
 (60,.arr 7 10,7),
 (50,.arr 8 10,8),
 (42,.st [10,10,10],3),
 (31,.st [1,1,48,48,50,48,0],452),
 (59,.st [1,0,0,10,10],5),
 (67,.st [1,10,10],3),
 (55,.st [24,24,1,50],25),
 (43,.st [1,1,48,48,50,48,0,82],1476),
 (73,.st [1,10,1],3),
 (94,.arr 7 42,21),
 (84,.st [10,18],2),
 (90,.st [10,18,88],10),
 (88,.arr 8 0,8),
 (110,.arr 2 24,16),
 (80,.st [10,10,78,78],34),
 (82,.arr 1024 0,1024),
 (78,.arr 16 18,16),
 (108,.arr 64 12,64),
 (28,.row 26,1),
 (38,.row 10,1),
 (58,.row 24,1),
 (53,.row 1,1),
 (56,.row 54,1),
 (57,.row 55,1),
 (86,.row 84,1),
 (92,.row 90,1),
 (96,.row 42,1),
 (104,.row 12,1)]
def Xe:List (Nat×Nat):=[(52,22),(53,1),(56,21),(4,0),(3,10),(27,1),(28,10),(50,33),(54,1),(38,41),(43,41),(26,24),(68,26),(71,54),(34,1),(22,1),(31,1),(48,1),(36,44),(86,48),(87,60),(90,50),(93,1),(84,42),(24,18),(85,48),(75,50),(41,1),(107,31),(105,1),(80,59),(78,1),(113,67),(77,55),(74,1),(127,1),(136,43),(143,73),(147,94),(150,1),(150,1),(132,1),(164,21),(111,1),(115,1),(126,1),(167,84),(174,90),(172,88),(177,110),(140,1),(141,1),(186,80),(134,82),(154,1),(156,1),(184,78),(195,108),(202,1),(203,1),(5,12),(199,1),(197,16),(194,18)]
def gls:GL:=[(0,0,108)]
noncomputable def cfg:Cfg:=⟨Tryz.prog,tab,Xe,gls⟩
theorem Tl:aR tab=true:=by kernel_rfl
theorem UO:kr cfg=true:=by kernel_rfl
theorem T5:cfg.P.follows .mixedOrders=true:=by kernel_rfl
theorem WT:∀g fc,D g=some fc→K6 cfg g fc=true:=fun g fc h=>TS (p:=K6 cfg) (by kernel_rfl) (show lkT dT g=some fc from h)
theorem ctx:Ctx cfg D:=⟨Tl,UO,T5,WT⟩
theorem own:ownKnob Tryz.prog.godebug=none:=by kernel_rfl
theorem Tk:laidOutB Tryz.prog=true:=by kernel_rfl
end Go.Proofs.YtilcajpldklbiaaGreatDoor
