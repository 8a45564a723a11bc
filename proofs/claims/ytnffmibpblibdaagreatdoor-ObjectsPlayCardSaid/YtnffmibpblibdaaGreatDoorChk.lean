/-
  YtnffmibpblibdaaGreatDoorChk: the printed code is the translation's: each function, and the layout of its types.
-/
import Derived.Test.YtnffmibpblibdaaGreatDoorCode
import Derived.Test.YtnffmibpblibdaaGreatDoorAbD
import Derived.Test.YtnffmibpblibdaaGreatDoorChecked
set_option maxRecDepth 100000
namespace Go.Proofs.YtnffmibpblibdaaGreatDoor
open Go.Ab
def tab : Tab := [
 (22, .arr 2 10, 2),
 (54, .st [10, 10, 10, 18], 4),
 (31, .st [1, 1, 48, 48, 50, 48, 0], 452),
 (26, .st [10, 10, 24], 10),
 (33, .st [1, 1, 0, 10, 10], 5),
 (24, .arr 8 18, 8),
 (48, .arr 49 42, 147),
 (42, .st [10, 10, 10], 3),
 (59, .st [1, 0, 0, 10, 10], 5),
 (50, .arr 8 10, 8),
 (43, .st [1, 1, 48, 48, 50, 48, 0, 82], 1476),
 (21, .st [10, 1], 2),
 (55, .st [24, 24, 1, 50], 25),
 (40, .st [10, 10, 10, 10, 10], 5),
 (80, .st [10, 10, 78, 78], 34),
 (82, .arr 1024 0, 1024),
 (78, .arr 16 18, 16),
 (84, .st [10, 18], 2),
 (32, .arr 49 0, 49),
 (90, .st [10, 18, 88], 10),
 (108, .arr 64 12, 64),
 (88, .arr 8 0, 8),
 (56, .row 54, 1),
 (38, .row 10, 1),
 (57, .row 55, 1),
 (58, .row 24, 1),
 (86, .row 84, 1),
 (53, .row 1, 1),
 (92, .row 90, 1)]
def V5 : List (Nat × Nat) := [(22, 22), (23, 1), (3, 10), (4, 0), (26, 1), (33, 1), (27, 10), (46, 1), (49, 54), (54, 31), (52, 1), (64, 26), (47, 18), (75, 33), (62, 24), (38, 48), (37, 42), (79, 48), (81, 1), (83, 59), (30, 1), (72, 1), (85, 50), (92, 43), (40, 50), (42, 1), (86, 1), (98, 21), (102, 55), (100, 1), (113, 40), (122, 1), (73, 1), (125, 1), (129, 80), (90, 82), (127, 78), (105, 84), (136, 32), (144, 90), (145, 1), (147, 1), (148, 108), (5, 12), (142, 88)]
def gls : GL := [(0, 0, 108)]
noncomputable def cfg : Cfg := ⟨Tryz.prog, tab, V5, gls⟩
theorem Se : aM tab = true := by kernel_rfl
theorem VC : jd cfg = true := by kernel_rfl
theorem Tg : cfg.P.follows .mixedOrders = true := by kernel_rfl
theorem lk : au cfg 3 eE = true := by kernel_rfl
theorem nZ : au cfg 4 j7 = true := by kernel_rfl
theorem oT : au cfg 5 hU = true := by kernel_rfl
theorem BX : au cfg 6 pO = true := by kernel_rfl
theorem pm : au cfg 7 iz = true := by kernel_rfl
theorem wa : au cfg 8 mS = true := by kernel_rfl
theorem n5 : au cfg 9 gD = true := by kernel_rfl
theorem pr : au cfg 10 kD = true := by kernel_rfl
theorem qp : au cfg 11 ji = true := by kernel_rfl
theorem rE : au cfg 12 jS = true := by kernel_rfl
theorem ln : au cfg 13 eH = true := by kernel_rfl
theorem pN : au cfg 14 iH = true := by kernel_rfl
theorem kM : au cfg 15 ed = true := by kernel_rfl
theorem qY : au cfg 16 jE = true := by kernel_rfl
theorem oX : au cfg 17 ie = true := by kernel_rfl
theorem pj : au cfg 18 iE = true := by kernel_rfl
theorem qL : au cfg 19 jh = true := by kernel_rfl
theorem o7 : au cfg 20 iO = true := by kernel_rfl
theorem oP : au cfg 21 ir = true := by kernel_rfl
theorem qd : au cfg 22 jo = true := by kernel_rfl
theorem my : au cfg 23 fz = true := by kernel_rfl
theorem oH : au cfg 24 ip = true := by kernel_rfl
theorem lp : au cfg 25 eB = true := by kernel_rfl
theorem pH : au cfg 26 iI = true := by kernel_rfl
theorem lO : au cfg 27 eS = true := by kernel_rfl
theorem oE : au cfg 28 ig = true := by kernel_rfl
theorem qR : au cfg 29 jw = true := by kernel_rfl
theorem rO : au cfg 30 jR = true := by kernel_rfl
theorem lq : au cfg 31 eF = true := by kernel_rfl
theorem oQ : au cfg 32 ia = true := by kernel_rfl
theorem qq : au cfg 33 jf = true := by kernel_rfl
theorem wc : au cfg 34 mQ = true := by kernel_rfl
theorem qT : au cfg 35 jD = true := by kernel_rfl
theorem pu : au cfg 36 iN = true := by kernel_rfl
theorem oV : au cfg 37 ib = true := by kernel_rfl
theorem pn : au cfg 38 iP = true := by kernel_rfl
theorem n6 : au cfg 39 gz = true := by kernel_rfl
theorem lu : au cfg 40 eC = true := by kernel_rfl
theorem oJ : au cfg 41 ij = true := by kernel_rfl
theorem nO : au cfg 42 gj = true := by kernel_rfl
theorem m5 : au cfg 43 fX = true := by kernel_rfl
theorem oA : au cfg 44 iq = true := by kernel_rfl
theorem qo : au cfg 45 i9 = true := by kernel_rfl
theorem qW : au cfg 46 jy = true := by kernel_rfl
theorem qj : au cfg 47 jb = true := by kernel_rfl
theorem qQ : au cfg 48 jx = true := by kernel_rfl
theorem po : au cfg 49 iC = true := by kernel_rfl
theorem mB : au cfg 50 ft = true := by kernel_rfl
theorem lI : au cfg 51 eU = true := by kernel_rfl
theorem qH : au cfg 52 ja = true := by kernel_rfl
theorem mG : au cfg 53 fA = true := by kernel_rfl
theorem lJ : au cfg 54 eT = true := by kernel_rfl
theorem n9 : au cfg 55 gF = true := by kernel_rfl
theorem kF : au cfg 56 dZ = true := by kernel_rfl
theorem oR : au cfg 57 io = true := by kernel_rfl
theorem lz : au cfg 58 eG = true := by kernel_rfl
theorem pA : au cfg 59 iJ = true := by kernel_rfl
theorem l7 : au cfg 60 eP = true := by kernel_rfl
theorem mX : au cfg 61 fP = true := by kernel_rfl
theorem BP : au cfg 62 qf = true := by kernel_rfl
theorem uH : au cfg 63 lQ = true := by kernel_rfl
theorem qC : au cfg 64 jn = true := by kernel_rfl
theorem nY : au cfg 65 gH = true := by kernel_rfl
theorem wb : au cfg 66 mV = true := by kernel_rfl
theorem oC : au cfg 67 ik = true := by kernel_rfl
theorem pe : au cfg 68 iG = true := by kernel_rfl
theorem nV : au cfg 69 gC = true := by kernel_rfl
theorem pL : au cfg 70 iV = true := by kernel_rfl
theorem lw : au cfg 71 eI = true := by kernel_rfl
theorem tH : au cfg 72 kq = true := by kernel_rfl
theorem mE : au cfg 73 fB = true := by kernel_rfl
theorem lY : au cfg 74 eV = true := by kernel_rfl
theorem q9 : au cfg 75 jP = true := by kernel_rfl
theorem qS : au cfg 76 jz = true := by kernel_rfl
theorem pW : au cfg 77 jc = true := by kernel_rfl
theorem lB : au cfg 78 ew = true := by kernel_rfl
theorem lN : au cfg 79 eQ = true := by kernel_rfl
theorem rQ : au cfg 80 jM = true := by kernel_rfl
theorem nU : au cfg 81 gi = true := by kernel_rfl
theorem mC : au cfg 82 fj = true := by kernel_rfl
theorem kG : au cfg 83 em = true := by kernel_rfl
theorem mL : au cfg 84 ff = true := by kernel_rfl
theorem pG : au cfg 85 iK = true := by kernel_rfl
theorem yd : au cfg 86 nB = true := by kernel_rfl
theorem lA : au cfg 87 eD = true := by kernel_rfl
theorem py : au cfg 88 iy = true := by kernel_rfl
theorem n8 : au cfg 89 gG = true := by kernel_rfl
theorem me : au cfg 90 eR = true := by kernel_rfl
theorem qy : au cfg 91 i5 = true := by kernel_rfl
theorem yw : au cfg 92 oI = true := by kernel_rfl
theorem oa : au cfg 93 gI = true := by kernel_rfl
theorem oN : au cfg 94 ii = true := by kernel_rfl
theorem oW : au cfg 95 il = true := by kernel_rfl
theorem kS : au cfg 96 eo = true := by kernel_rfl
theorem lm : au cfg 97 eA = true := by kernel_rfl
theorem ov : au cfg 98 it = true := by kernel_rfl
theorem n7 : au cfg 99 gJ = true := by kernel_rfl
theorem uO : au cfg 100 mc = true := by kernel_rfl
theorem qn : au cfg 101 jg = true := by kernel_rfl
theorem pk : au cfg 102 iD = true := by kernel_rfl
theorem oB : au cfg 103 ic = true := by kernel_rfl
theorem sC : au cfg 104 j9 = true := by kernel_rfl
theorem We : ∀ g fc, D g = some fc → au cfg g fc = true := by
 intro g fc h;unfold D at h;split at h
 ·cases h; exact lk
 ·cases h; exact nZ
 ·cases h; exact oT
 ·cases h; exact BX
 ·cases h; exact pm
 ·cases h; exact wa
 ·cases h; exact n5
 ·cases h; exact pr
 ·cases h; exact qp
 ·cases h; exact rE
 ·cases h; exact ln
 ·cases h; exact pN
 ·cases h; exact kM
 ·cases h; exact qY
 ·cases h; exact oX
 ·cases h; exact pj
 ·cases h; exact qL
 ·cases h; exact o7
 ·cases h; exact oP
 ·cases h; exact qd
 ·cases h; exact my
 ·cases h; exact oH
 ·cases h; exact lp
 ·cases h; exact pH
 ·cases h; exact lO
 ·cases h; exact oE
 ·cases h; exact qR
 ·cases h; exact rO
 ·cases h; exact lq
 ·cases h; exact oQ
 ·cases h; exact qq
 ·cases h; exact wc
 ·cases h; exact qT
 ·cases h; exact pu
 ·cases h; exact oV
 ·cases h; exact pn
 ·cases h; exact n6
 ·cases h; exact lu
 ·cases h; exact oJ
 ·cases h; exact nO
 ·cases h; exact m5
 ·cases h; exact oA
 ·cases h; exact qo
 ·cases h; exact qW
 ·cases h; exact qj
 ·cases h; exact qQ
 ·cases h; exact po
 ·cases h; exact mB
 ·cases h; exact lI
 ·cases h; exact qH
 ·cases h; exact mG
 ·cases h; exact lJ
 ·cases h; exact n9
 ·cases h; exact kF
 ·cases h; exact oR
 ·cases h; exact lz
 ·cases h; exact pA
 ·cases h; exact l7
 ·cases h; exact mX
 ·cases h; exact BP
 ·cases h; exact uH
 ·cases h; exact qC
 ·cases h; exact nY
 ·cases h; exact wb
 ·cases h; exact oC
 ·cases h; exact pe
 ·cases h; exact nV
 ·cases h; exact pL
 ·cases h; exact lw
 ·cases h; exact tH
 ·cases h; exact mE
 ·cases h; exact lY
 ·cases h; exact q9
 ·cases h; exact qS
 ·cases h; exact pW
 ·cases h; exact lB
 ·cases h; exact lN
 ·cases h; exact rQ
 ·cases h; exact nU
 ·cases h; exact mC
 ·cases h; exact kG
 ·cases h; exact mL
 ·cases h; exact pG
 ·cases h; exact yd
 ·cases h; exact lA
 ·cases h; exact py
 ·cases h; exact n8
 ·cases h; exact me
 ·cases h; exact qy
 ·cases h; exact yw
 ·cases h; exact oa
 ·cases h; exact oN
 ·cases h; exact oW
 ·cases h; exact kS
 ·cases h; exact lm
 ·cases h; exact ov
 ·cases h; exact n7
 ·cases h; exact uO
 ·cases h; exact qn
 ·cases h; exact pk
 ·cases h; exact oB
 ·cases h; exact sC
 ·cases h
theorem ctx : Ctx cfg D := ⟨Se, VC, Tg, We⟩
theorem own : ownKnob Tryz.prog.godebug = none := by kernel_rfl
theorem TT : laidOutB Tryz.prog = true := by kernel_rfl
end Go.Proofs.YtnffmibpblibdaaGreatDoor
