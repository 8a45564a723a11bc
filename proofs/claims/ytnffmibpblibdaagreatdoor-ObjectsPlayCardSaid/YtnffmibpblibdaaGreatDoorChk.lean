/-
  YtnffmibpblibdaaGreatDoorChk: the printed code is the translation's: each function, and the layout of its types.
-/
import Derived.Test.YtnffmibpblibdaaGreatDoorCode
import Derived.Test.YtnffmibpblibdaaGreatDoorAbD
import Derived.Test.YtnffmibpblibdaaGreatDoorChecked
set_option maxRecDepth 100000
namespace Go.Proofs.YtnffmibpblibdaaGreatDoor
open Go.Ab
def tab : Tab := [
 (22, .arr 2 10, 2),
 (54, .st [10, 10, 10, 18], 4),
 (31, .st [1, 1, 48, 48, 50, 48, 0], 452),
 (26, .st [10, 10, 24], 10),
 (33, .st [1, 1, 0, 10, 10], 5),
 (24, .arr 8 18, 8),
 (48, .arr 49 42, 147),
 (42, .st [10, 10, 10], 3),
 (59, .st [1, 0, 0, 10, 10], 5),
 (50, .arr 8 10, 8),
 (43, .st [1, 1, 48, 48, 50, 48, 0, 82], 1476),
 (21, .st [10, 1], 2),
 (55, .st [24, 24, 1, 50], 25),
 (40, .st [10, 10, 10, 10, 10], 5),
 (80, .st [10, 10, 78, 78], 34),
 (82, .arr 1024 0, 1024),
 (78, .arr 16 18, 16),
 (84, .st [10, 18], 2),
 (32, .arr 49 0, 49),
 (90, .st [10, 18, 88], 10),
 (108, .arr 64 12, 64),
 (88, .arr 8 0, 8),
 (56, .row 54, 1),
 (38, .row 10, 1),
 (57, .row 55, 1),
 (58, .row 24, 1),
 (86, .row 84, 1),
 (53, .row 1, 1),
 (92, .row 90, 1)]
def WD : List (Nat × Nat) := [(22, 22), (23, 1), (3, 10), (4, 0), (26, 1), (33, 1), (27, 10), (46, 1), (49, 54), (54, 31), (52, 1), (64, 26), (47, 18), (75, 33), (62, 24), (38, 48), (37, 42), (79, 48), (81, 1), (83, 59), (30, 1), (72, 1), (85, 50), (92, 43), (40, 50), (42, 1), (86, 1), (98, 21), (102, 55), (100, 1), (113, 40), (122, 1), (73, 1), (125, 1), (129, 80), (90, 82), (127, 78), (105, 84), (136, 32), (144, 90), (145, 1), (147, 1), (148, 108), (5, 12), (142, 88)]
def gls : GL := [(0, 0, 108)]
noncomputable def cfg : Cfg := ⟨Tryz.prog, tab, WD, gls⟩
theorem SK : aM tab = true := by kernel_rfl
theorem Vo : jk cfg = true := by kernel_rfl
theorem TF : cfg.P.follows .mixedOrders = true := by kernel_rfl
theorem lw : au cfg 3 eA = true := by kernel_rfl
theorem n7 : au cfg 4 j7 = true := by kernel_rfl
theorem oN : au cfg 5 hU = true := by kernel_rfl
theorem Br : au cfg 6 qg = true := by kernel_rfl
theorem pd : au cfg 7 iE = true := by kernel_rfl
theorem wg : au cfg 8 mU = true := by kernel_rfl
theorem nX : au cfg 9 gC = true := by kernel_rfl
theorem pt : au cfg 10 kB = true := by kernel_rfl
theorem qq : au cfg 11 jl = true := by kernel_rfl
theorem rj : au cfg 12 jR = true := by kernel_rfl
theorem lm : au cfg 13 eI = true := by kernel_rfl
theorem pg : au cfg 14 iG = true := by kernel_rfl
theorem lj : au cfg 15 dZ = true := by kernel_rfl
theorem qR : au cfg 16 jy = true := by kernel_rfl
theorem oz : au cfg 17 ie = true := by kernel_rfl
theorem pB : au cfg 18 iy = true := by kernel_rfl
theorem pW : au cfg 19 jg = true := by kernel_rfl
theorem px : au cfg 20 iN = true := by kernel_rfl
theorem om : au cfg 21 ik = true := by kernel_rfl
theorem qv : au cfg 22 i7 = true := by kernel_rfl
theorem mD : au cfg 23 fC = true := by kernel_rfl
theorem oJ : au cfg 24 il = true := by kernel_rfl
theorem ln : au cfg 25 eG = true := by kernel_rfl
theorem o7 : au cfg 26 iT = true := by kernel_rfl
theorem l5 : au cfg 27 eS = true := by kernel_rfl
theorem oM : au cfg 28 hJ = true := by kernel_rfl
theorem qT : au cfg 29 jB = true := by kernel_rfl
theorem rK : au cfg 30 jK = true := by kernel_rfl
theorem lB : au cfg 31 eC = true := by kernel_rfl
theorem oA : au cfg 32 ij = true := by kernel_rfl
theorem qd : au cfg 33 jm = true := by kernel_rfl
theorem vZ : au cfg 34 mV = true := by kernel_rfl
theorem qV : au cfg 35 jz = true := by kernel_rfl
theorem pC : au cfg 36 iL = true := by kernel_rfl
theorem oB : au cfg 37 it = true := by kernel_rfl
theorem pH : au cfg 38 iM = true := by kernel_rfl
theorem n6 : au cfg 39 gG = true := by kernel_rfl
theorem lq : au cfg 40 eF = true := by kernel_rfl
theorem ou : au cfg 41 ii = true := by kernel_rfl
theorem nI : au cfg 42 gj = true := by kernel_rfl
theorem no : au cfg 43 f7 = true := by kernel_rfl
theorem oU : au cfg 44 iq = true := by kernel_rfl
theorem pQ : au cfg 45 i6 = true := by kernel_rfl
theorem qS : au cfg 46 jE = true := by kernel_rfl
theorem ql : au cfg 47 je = true := by kernel_rfl
theorem qY : au cfg 48 jx = true := by kernel_rfl
theorem pG : au cfg 49 iS = true := by kernel_rfl
theorem mJ : au cfg 50 fw = true := by kernel_rfl
theorem lH : au cfg 51 eR = true := by kernel_rfl
theorem qe : au cfg 52 i5 = true := by kernel_rfl
theorem my : au cfg 53 fv = true := by kernel_rfl
theorem l9 : au cfg 54 eQ = true := by kernel_rfl
theorem n9 : au cfg 55 gz = true := by kernel_rfl
theorem li : au cfg 56 ec = true := by kernel_rfl
theorem oH : au cfg 57 ir = true := by kernel_rfl
theorem lu : au cfg 58 eD = true := by kernel_rfl
theorem pL : au cfg 59 iD = true := by kernel_rfl
theorem lU : au cfg 60 eO = true := by kernel_rfl
theorem mO : au cfg 61 fO = true := by kernel_rfl
theorem BU : au cfg 62 qA = true := by kernel_rfl
theorem uN : au cfg 63 l7 = true := by kernel_rfl
theorem qF : au cfg 64 jd = true := by kernel_rfl
theorem n8 : au cfg 65 gF = true := by kernel_rfl
theorem vT : au cfg 66 mP = true := by kernel_rfl
theorem oT : au cfg 67 ig = true := by kernel_rfl
theorem pI : au cfg 68 iB = true := by kernel_rfl
theorem nY : au cfg 69 gA = true := by kernel_rfl
theorem pi : au cfg 70 iz = true := by kernel_rfl
theorem lA : au cfg 71 eH = true := by kernel_rfl
theorem tj : au cfg 72 kq = true := by kernel_rfl
theorem mG : au cfg 73 fB = true := by kernel_rfl
theorem lI : au cfg 74 eT = true := by kernel_rfl
theorem rB : au cfg 75 jM = true := by kernel_rfl
theorem qQ : au cfg 76 jw = true := by kernel_rfl
theorem qB : au cfg 77 jf = true := by kernel_rfl
theorem lz : au cfg 78 eB = true := by kernel_rfl
theorem l6 : au cfg 79 eV = true := by kernel_rfl
theorem rE : au cfg 80 jS = true := by kernel_rfl
theorem nQ : au cfg 81 gi = true := by kernel_rfl
theorem mC : au cfg 82 ft = true := by kernel_rfl
theorem kN : au cfg 83 d8 = true := by kernel_rfl
theorem mw : au cfg 84 ff = true := by kernel_rfl
theorem o0 : au cfg 85 iV = true := by kernel_rfl
theorem xo : au cfg 86 nR = true := by kernel_rfl
theorem lp : au cfg 87 eu = true := by kernel_rfl
theorem pr : au cfg 88 iR = true := by kernel_rfl
theorem nW : au cfg 89 gD = true := by kernel_rfl
theorem mc : au cfg 90 eU = true := by kernel_rfl
theorem qL : au cfg 91 ja = true := by kernel_rfl
theorem yD : au cfg 92 oE = true := by kernel_rfl
theorem nV : au cfg 93 gI = true := by kernel_rfl
theorem oK : au cfg 94 gZ = true := by kernel_rfl
theorem ot : au cfg 95 ip = true := by kernel_rfl
theorem kJ : au cfg 96 en = true := by kernel_rfl
theorem lk : au cfg 97 eE = true := by kernel_rfl
theorem oC : au cfg 98 ic = true := by kernel_rfl
theorem nZ : au cfg 99 gJ = true := by kernel_rfl
theorem uW : au cfg 100 lL = true := by kernel_rfl
theorem qn : au cfg 101 i9 = true := by kernel_rfl
theorem o9 : au cfg 102 iJ = true := by kernel_rfl
theorem ov : au cfg 103 ib = true := by kernel_rfl
theorem sB : au cfg 104 ka = true := by kernel_rfl
theorem WH : ∀ g fc, D g = some fc → au cfg g fc = true := by
 intro g fc h;unfold D at h;split at h
 ·cases h; exact lw
 ·cases h; exact n7
 ·cases h; exact oN
 ·cases h; exact Br
 ·cases h; exact pd
 ·cases h; exact wg
 ·cases h; exact nX
 ·cases h; exact pt
 ·cases h; exact qq
 ·cases h; exact rj
 ·cases h; exact lm
 ·cases h; exact pg
 ·cases h; exact lj
 ·cases h; exact qR
 ·cases h; exact oz
 ·cases h; exact pB
 ·cases h; exact pW
 ·cases h; exact px
 ·cases h; exact om
 ·cases h; exact qv
 ·cases h; exact mD
 ·cases h; exact oJ
 ·cases h; exact ln
 ·cases h; exact o7
 ·cases h; exact l5
 ·cases h; exact oM
 ·cases h; exact qT
 ·cases h; exact rK
 ·cases h; exact lB
 ·cases h; exact oA
 ·cases h; exact qd
 ·cases h; exact vZ
 ·cases h; exact qV
 ·cases h; exact pC
 ·cases h; exact oB
 ·cases h; exact pH
 ·cases h; exact n6
 ·cases h; exact lq
 ·cases h; exact ou
 ·cases h; exact nI
 ·cases h; exact no
 ·cases h; exact oU
 ·cases h; exact pQ
 ·cases h; exact qS
 ·cases h; exact ql
 ·cases h; exact qY
 ·cases h; exact pG
 ·cases h; exact mJ
 ·cases h; exact lH
 ·cases h; exact qe
 ·cases h; exact my
 ·cases h; exact l9
 ·cases h; exact n9
 ·cases h; exact li
 ·cases h; exact oH
 ·cases h; exact lu
 ·cases h; exact pL
 ·cases h; exact lU
 ·cases h; exact mO
 ·cases h; exact BU
 ·cases h; exact uN
 ·cases h; exact qF
 ·cases h; exact n8
 ·cases h; exact vT
 ·cases h; exact oT
 ·cases h; exact pI
 ·cases h; exact nY
 ·cases h; exact pi
 ·cases h; exact lA
 ·cases h; exact tj
 ·cases h; exact mG
 ·cases h; exact lI
 ·cases h; exact rB
 ·cases h; exact qQ
 ·cases h; exact qB
 ·cases h; exact lz
 ·cases h; exact l6
 ·cases h; exact rE
 ·cases h; exact nQ
 ·cases h; exact mC
 ·cases h; exact kN
 ·cases h; exact mw
 ·cases h; exact o0
 ·cases h; exact xo
 ·cases h; exact lp
 ·cases h; exact pr
 ·cases h; exact nW
 ·cases h; exact mc
 ·cases h; exact qL
 ·cases h; exact yD
 ·cases h; exact nV
 ·cases h; exact oK
 ·cases h; exact ot
 ·cases h; exact kJ
 ·cases h; exact lk
 ·cases h; exact oC
 ·cases h; exact nZ
 ·cases h; exact uW
 ·cases h; exact qn
 ·cases h; exact o9
 ·cases h; exact ov
 ·cases h; exact sB
 ·cases h
theorem ctx : Ctx cfg D := ⟨SK, Vo, TF, WH⟩
theorem own : ownKnob Tryz.prog.godebug = none := by kernel_rfl
theorem TU : laidOutB Tryz.prog = true := by kernel_rfl
end Go.Proofs.YtnffmibpblibdaaGreatDoor
