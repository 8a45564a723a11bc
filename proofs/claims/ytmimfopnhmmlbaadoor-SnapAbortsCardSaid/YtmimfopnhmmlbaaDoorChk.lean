/-
  YtmimfopnhmmlbaaDoorChk: the printed code is the translation's: each function, and the layout of its types.
-/
import Derived.Test.YtmimfopnhmmlbaaDoorCode
import Derived.Test.YtmimfopnhmmlbaaDoorAbD
import Derived.Test.YtmimfopnhmmlbaaDoorChecked
set_option maxRecDepth 100000
namespace Go.Proofs.YtmimfopnhmmlbaaDoor
open Go.Ab
def tab : Tab := [
 (54, .st [10, 10, 10, 18], 4),
 (48, .arr 49 42, 147),
 (50, .arr 8 10, 8),
 (44, .st [10, 10, 10, 10], 4),
 (43, .st [1, 1, 48, 48, 50, 48, 0, 82], 1476),
 (61, .st [1, 1, 44, 10, 1, 10, 48, 50], 164),
 (82, .arr 1024 0, 1024),
 (42, .st [10, 10, 10], 3),
 (47, .st [1, 10], 2),
 (24, .arr 8 18, 8),
 (59, .st [1, 0, 0, 10, 10], 5),
 (55, .st [24, 24, 1, 50], 25),
 (60, .arr 7 10, 7),
 (80, .st [10, 10, 78, 78], 34),
 (78, .arr 16 18, 16),
 (94, .arr 7 42, 21),
 (84, .st [10, 18], 2),
 (108, .arr 64 12, 64),
 (56, .row 54, 1),
 (63, .row 47, 1),
 (38, .row 10, 1),
 (58, .row 24, 1),
 (57, .row 55, 1),
 (86, .row 84, 1),
 (104, .row 12, 1)]
def Vb : List (Nat × Nat) := [(22, 1), (3, 10), (4, 0), (26, 1), (32, 54), (41, 48), (43, 50), (35, 10), (61, 44), (24, 1), (25, 1), (30, 18), (80, 43), (76, 1), (83, 61), (81, 1), (77, 82), (39, 42), (87, 47), (88, 1), (85, 1), (66, 1), (54, 24), (98, 59), (96, 1), (95, 55), (40, 48), (99, 60), (42, 50), (113, 80), (111, 78), (117, 94), (124, 1), (78, 82), (93, 1), (131, 84), (134, 108), (5, 12), (135, 1), (121, 1), (143, 1), (142, 1), (140, 16)]
def gls : GL := [(0, 0, 108)]
noncomputable def cfg : Cfg := ⟨Tryd.prog, tab, Vb, gls⟩
theorem R1 : aK tab = true := by kernel_rfl
theorem Uf : gK cfg = true := by kernel_rfl
theorem RN : cfg.P.follows .mixedOrders = true := by kernel_rfl
theorem kx : az cfg 3 dF = true := by kernel_rfl
theorem mz : az cfg 5 fu = true := by kernel_rfl
theorem np : az cfg 6 fY = true := by kernel_rfl
theorem mj : az cfg 7 eR = true := by kernel_rfl
theorem og : az cfg 8 gW = true := by kernel_rfl
theorem no : az cfg 9 gt = true := by kernel_rfl
theorem nR : az cfg 10 gZ = true := by kernel_rfl
theorem nJ : az cfg 11 gL = true := by kernel_rfl
theorem ny : az cfg 12 gg = true := by kernel_rfl
theorem qp : az cfg 13 jg = true := by kernel_rfl
theorem qQ : az cfg 14 jx = true := by kernel_rfl
theorem qY : az cfg 15 jt = true := by kernel_rfl
theorem mG : az cfg 16 ff = true := by kernel_rfl
theorem pU : az cfg 18 i4 = true := by kernel_rfl
theorem BS : az cfg 19 pT = true := by kernel_rfl
theorem mD : az cfg 20 fe = true := by kernel_rfl
theorem vo : az cfg 21 lw = true := by kernel_rfl
theorem mF : az cfg 22 fA = true := by kernel_rfl
theorem nI : az cfg 23 jP = true := by kernel_rfl
theorem yl : az cfg 24 nv = true := by kernel_rfl
theorem mw : az cfg 25 fv = true := by kernel_rfl
theorem o8 : az cfg 26 ii = true := by kernel_rfl
theorem nQ : az cfg 27 gX = true := by kernel_rfl
theorem oW : az cfg 28 iw = true := by kernel_rfl
theorem oj : az cfg 29 gY = true := by kernel_rfl
theorem mT : az cfg 30 gm = true := by kernel_rfl
theorem n9 : az cfg 31 hJ = true := by kernel_rfl
theorem pZ : az cfg 32 ja = true := by kernel_rfl
theorem sY : az cfg 33 jZ = true := by kernel_rfl
theorem qP : az cfg 34 ju = true := by kernel_rfl
theorem qT : az cfg 35 jw = true := by kernel_rfl
theorem qi : az cfg 36 i9 = true := by kernel_rfl
theorem pu : az cfg 37 iI = true := by kernel_rfl
theorem nu : az cfg 38 fZ = true := by kernel_rfl
theorem pr : az cfg 39 iH = true := by kernel_rfl
theorem pG : az cfg 40 iQ = true := by kernel_rfl
theorem BC : az cfg 41 oD = true := by kernel_rfl
theorem ns : az cfg 42 gn = true := by kernel_rfl
theorem nk : az cfg 43 gj = true := by kernel_rfl
theorem vp : az cfg 44 lm = true := by kernel_rfl
theorem pA : az cfg 45 iD = true := by kernel_rfl
theorem oa : az cfg 46 gM = true := by kernel_rfl
theorem ni : az cfg 47 gh = true := by kernel_rfl
theorem o9 : az cfg 48 iu = true := by kernel_rfl
theorem py : az cfg 49 iK = true := by kernel_rfl
theorem pg : az cfg 50 ig = true := by kernel_rfl
theorem oi : az cfg 51 gR = true := by kernel_rfl
theorem nT : az cfg 52 gQ = true := by kernel_rfl
theorem xm : az cfg 53 mi = true := by kernel_rfl
theorem me : az cfg 54 eP = true := by kernel_rfl
theorem kE : az cfg 55 dD = true := by kernel_rfl
theorem pQ : az cfg 56 iT = true := by kernel_rfl
theorem pv : az cfg 57 iE = true := by kernel_rfl
theorem vj : az cfg 58 kZ = true := by kernel_rfl
theorem pP : az cfg 59 i7 = true := by kernel_rfl
theorem vm : az cfg 60 li = true := by kernel_rfl
theorem pB : az cfg 61 iM = true := by kernel_rfl
theorem t4 : az cfg 62 kD = true := by kernel_rfl
theorem mE : az cfg 63 fq = true := by kernel_rfl
theorem mB : az cfg 64 fj = true := by kernel_rfl
theorem sf : az cfg 65 jI = true := by kernel_rfl
theorem ng : az cfg 66 gk = true := by kernel_rfl
theorem nh : az cfg 67 fW = true := by kernel_rfl
theorem pt : az cfg 68 iG = true := by kernel_rfl
theorem oo : az cfg 69 ik = true := by kernel_rfl
theorem ql : az cfg 70 iZ = true := by kernel_rfl
theorem vC : az cfg 71 lA = true := by kernel_rfl
theorem vh : az cfg 72 lb = true := by kernel_rfl
theorem yF : az cfg 73 nc = true := by kernel_rfl
theorem oY : az cfg 74 it = true := by kernel_rfl
theorem vg : az cfg 75 lj = true := by kernel_rfl
theorem m0 : az cfg 76 ga = true := by kernel_rfl
theorem nD : az cfg 77 fX = true := by kernel_rfl
theorem mC : az cfg 78 fw = true := by kernel_rfl
theorem nj : az cfg 79 gp = true := by kernel_rfl
theorem mA : az cfg 80 ft = true := by kernel_rfl
theorem oh : az cfg 81 gV = true := by kernel_rfl
theorem sS : az cfg 82 kj = true := by kernel_rfl
theorem vk : az cfg 83 lc = true := by kernel_rfl
theorem Ag : az cfg 84 oq = true := by kernel_rfl
theorem lN : az cfg 85 eg = true := by kernel_rfl
theorem tM : az cfg 86 jY = true := by kernel_rfl
theorem qV : az cfg 87 jr = true := by kernel_rfl
theorem ol : az cfg 88 iv = true := by kernel_rfl
theorem nO : az cfg 89 gT = true := by kernel_rfl
theorem lk : az cfg 90 d9 = true := by kernel_rfl
theorem yf : az cfg 91 m9 = true := by kernel_rfl
theorem Vn : ∀ g fc, D g = some fc → az cfg g fc = true := by
 intro g fc h;unfold D at h;split at h
 ·cases h; exact kx
 ·cases h; exact mz
 ·cases h; exact np
 ·cases h; exact mj
 ·cases h; exact og
 ·cases h; exact no
 ·cases h; exact nR
 ·cases h; exact nJ
 ·cases h; exact ny
 ·cases h; exact qp
 ·cases h; exact qQ
 ·cases h; exact qY
 ·cases h; exact mG
 ·cases h; exact pU
 ·cases h; exact BS
 ·cases h; exact mD
 ·cases h; exact vo
 ·cases h; exact mF
 ·cases h; exact nI
 ·cases h; exact yl
 ·cases h; exact mw
 ·cases h; exact o8
 ·cases h; exact nQ
 ·cases h; exact oW
 ·cases h; exact oj
 ·cases h; exact mT
 ·cases h; exact n9
 ·cases h; exact pZ
 ·cases h; exact sY
 ·cases h; exact qP
 ·cases h; exact qT
 ·cases h; exact qi
 ·cases h; exact pu
 ·cases h; exact nu
 ·cases h; exact pr
 ·cases h; exact pG
 ·cases h; exact BC
 ·cases h; exact ns
 ·cases h; exact nk
 ·cases h; exact vp
 ·cases h; exact pA
 ·cases h; exact oa
 ·cases h; exact ni
 ·cases h; exact o9
 ·cases h; exact py
 ·cases h; exact pg
 ·cases h; exact oi
 ·cases h; exact nT
 ·cases h; exact xm
 ·cases h; exact me
 ·cases h; exact kE
 ·cases h; exact pQ
 ·cases h; exact pv
 ·cases h; exact vj
 ·cases h; exact pP
 ·cases h; exact vm
 ·cases h; exact pB
 ·cases h; exact t4
 ·cases h; exact mE
 ·cases h; exact mB
 ·cases h; exact sf
 ·cases h; exact ng
 ·cases h; exact nh
 ·cases h; exact pt
 ·cases h; exact oo
 ·cases h; exact ql
 ·cases h; exact vC
 ·cases h; exact vh
 ·cases h; exact yF
 ·cases h; exact oY
 ·cases h; exact vg
 ·cases h; exact m0
 ·cases h; exact nD
 ·cases h; exact mC
 ·cases h; exact nj
 ·cases h; exact mA
 ·cases h; exact oh
 ·cases h; exact sS
 ·cases h; exact vk
 ·cases h; exact Ag
 ·cases h; exact lN
 ·cases h; exact tM
 ·cases h; exact qV
 ·cases h; exact ol
 ·cases h; exact nO
 ·cases h; exact lk
 ·cases h; exact yf
 ·cases h
theorem ctx : Ctx cfg D := ⟨R1, Uf, RN, Vn⟩
theorem own : ownKnob Tryd.prog.godebug = none := by kernel_rfl
theorem Ta : laidOutB Tryd.prog = true := by kernel_rfl
end Go.Proofs.YtmimfopnhmmlbaaDoor
