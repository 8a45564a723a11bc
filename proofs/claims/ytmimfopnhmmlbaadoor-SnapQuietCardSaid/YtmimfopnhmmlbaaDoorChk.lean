/-
  YtmimfopnhmmlbaaDoorChk: the printed code is the translation's: each function, and the layout of its types.
-/
import Derived.Test.YtmimfopnhmmlbaaDoorCode
import Derived.Test.YtmimfopnhmmlbaaDoorAbD
import Derived.Test.YtmimfopnhmmlbaaDoorChecked
set_option maxRecDepth 100000
namespace Go.Proofs.YtmimfopnhmmlbaaDoor
open Go.Ab
def tab : Tab := [
 (54, .st [10, 10, 10, 18], 4),
 (48, .arr 49 42, 147),
 (30, .arr 49 26, 490),
 (26, .st [10, 10, 24], 10),
 (44, .st [10, 10, 10, 10], 4),
 (43, .st [1, 1, 48, 48, 50, 48, 0, 82], 1476),
 (50, .arr 8 10, 8),
 (61, .st [1, 1, 44, 10, 1, 10, 48, 50], 164),
 (82, .arr 1024 0, 1024),
 (42, .st [10, 10, 10], 3),
 (47, .st [1, 10], 2),
 (24, .arr 8 18, 8),
 (59, .st [1, 0, 0, 10, 10], 5),
 (55, .st [24, 24, 1, 50], 25),
 (60, .arr 7 10, 7),
 (80, .st [10, 10, 78, 78], 34),
 (78, .arr 16 18, 16),
 (94, .arr 7 42, 21),
 (84, .st [10, 18], 2),
 (108, .arr 64 12, 64),
 (56, .row 54, 1),
 (63, .row 47, 1),
 (38, .row 10, 1),
 (58, .row 24, 1),
 (57, .row 55, 1),
 (86, .row 84, 1),
 (104, .row 12, 1)]
def VU : List (Nat × Nat) := [(22, 1), (3, 10), (4, 0), (26, 1), (32, 54), (41, 48), (57, 30), (56, 26), (35, 10), (61, 44), (24, 1), (25, 1), (30, 18), (80, 43), (76, 1), (43, 50), (83, 61), (81, 1), (77, 82), (39, 42), (87, 47), (88, 1), (85, 1), (54, 24), (66, 1), (98, 59), (96, 1), (95, 55), (40, 48), (99, 60), (42, 50), (113, 80), (111, 78), (117, 94), (124, 1), (78, 82), (93, 1), (131, 84), (134, 108), (5, 12), (135, 1), (121, 1), (143, 1), (142, 1), (140, 16)]
def gls : GL := [(0, 0, 108)]
noncomputable def cfg : Cfg := ⟨Tryd.prog, tab, VU, gls⟩
theorem RZ : aJ tab = true := by kernel_rfl
theorem TL : gI cfg = true := by kernel_rfl
theorem RD : cfg.P.follows .mixedOrders = true := by kernel_rfl
theorem kU : az cfg 4 dS = true := by kernel_rfl
theorem mF : az cfg 5 fA = true := by kernel_rfl
theorem nk : az cfg 6 gc = true := by kernel_rfl
theorem my : az cfg 7 eV = true := by kernel_rfl
theorem nl : az cfg 9 fZ = true := by kernel_rfl
theorem oc : az cfg 10 gZ = true := by kernel_rfl
theorem nS : az cfg 11 gM = true := by kernel_rfl
theorem nh : az cfg 12 f9 = true := by kernel_rfl
theorem pQ : az cfg 13 iP = true := by kernel_rfl
theorem qR : az cfg 14 ju = true := by kernel_rfl
theorem qQ : az cfg 15 jv = true := by kernel_rfl
theorem mG : az cfg 16 fq = true := by kernel_rfl
theorem oM : az cfg 17 ie = true := by kernel_rfl
theorem pS : az cfg 18 i7 = true := by kernel_rfl
theorem Ff : az cfg 19 qr = true := by kernel_rfl
theorem mD : az cfg 20 fj = true := by kernel_rfl
theorem vu : az cfg 21 lq = true := by kernel_rfl
theorem mA : az cfg 22 fw = true := by kernel_rfl
theorem nT : az cfg 23 jN = true := by kernel_rfl
theorem yu : az cfg 24 m8 = true := by kernel_rfl
theorem mE : az cfg 25 fB = true := by kernel_rfl
theorem o7 : az cfg 26 it = true := by kernel_rfl
theorem oq : az cfg 27 hU = true := by kernel_rfl
theorem ou : az cfg 28 ik = true := by kernel_rfl
theorem oo : az cfg 29 gN = true := by kernel_rfl
theorem nK : az cfg 30 gj = true := by kernel_rfl
theorem oa : az cfg 31 gP = true := by kernel_rfl
theorem pP : az cfg 32 iV = true := by kernel_rfl
theorem tq : az cfg 33 kg = true := by kernel_rfl
theorem qX : az cfg 34 jt = true := by kernel_rfl
theorem q6 : az cfg 35 jw = true := by kernel_rfl
theorem qc : az cfg 36 jg = true := by kernel_rfl
theorem pC : az cfg 37 iH = true := by kernel_rfl
theorem mY : az cfg 38 gu = true := by kernel_rfl
theorem pu : az cfg 39 iL = true := by kernel_rfl
theorem pM : az cfg 40 ja = true := by kernel_rfl
theorem Bn : az cfg 41 oS = true := by kernel_rfl
theorem mW : az cfg 42 gn = true := by kernel_rfl
theorem nA : az cfg 43 ga = true := by kernel_rfl
theorem vC : az cfg 44 lh = true := by kernel_rfl
theorem pz : az cfg 45 iF = true := by kernel_rfl
theorem nW : az cfg 46 gG = true := by kernel_rfl
theorem ng : az cfg 47 fY = true := by kernel_rfl
theorem oz : az cfg 48 ip = true := by kernel_rfl
theorem py : az cfg 49 iJ = true := by kernel_rfl
theorem oI : az cfg 50 il = true := by kernel_rfl
theorem og : az cfg 51 gW = true := by kernel_rfl
theorem oi : az cfg 52 gH = true := by kernel_rfl
theorem wI : az cfg 53 mt = true := by kernel_rfl
theorem mz : az cfg 54 eW = true := by kernel_rfl
theorem kB : az cfg 55 dG = true := by kernel_rfl
theorem qn : az cfg 56 iW = true := by kernel_rfl
theorem pw : az cfg 57 iK = true := by kernel_rfl
theorem vK : az cfg 58 lj = true := by kernel_rfl
theorem qh : az cfg 59 iY = true := by kernel_rfl
theorem vJ : az cfg 60 lm = true := by kernel_rfl
theorem pA : az cfg 61 iB = true := by kernel_rfl
theorem ua : az cfg 62 kG = true := by kernel_rfl
theorem mC : az cfg 63 fv = true := by kernel_rfl
theorem mH : az cfg 64 ft = true := by kernel_rfl
theorem rG : az cfg 65 jK = true := by kernel_rfl
theorem nC : az cfg 66 gm = true := by kernel_rfl
theorem m6 : az cfg 67 gp = true := by kernel_rfl
theorem pv : az cfg 68 iI = true := by kernel_rfl
theorem pj : az cfg 69 ia = true := by kernel_rfl
theorem qv : az cfg 70 iQ = true := by kernel_rfl
theorem vE : az cfg 71 lb = true := by kernel_rfl
theorem vz : az cfg 72 lc = true := by kernel_rfl
theorem yq : az cfg 73 nI = true := by kernel_rfl
theorem oA : az cfg 74 ii = true := by kernel_rfl
theorem vD : az cfg 75 li = true := by kernel_rfl
theorem mV : az cfg 76 fX = true := by kernel_rfl
theorem nF : az cfg 77 gk = true := by kernel_rfl
theorem mJ : az cfg 78 fg = true := by kernel_rfl
theorem mX : az cfg 79 gv = true := by kernel_rfl
theorem mI : az cfg 80 fu = true := by kernel_rfl
theorem nR : az cfg 81 gV = true := by kernel_rfl
theorem sV : az cfg 82 jT = true := by kernel_rfl
theorem vB : az cfg 83 lA = true := by kernel_rfl
theorem BA : az cfg 84 oP = true := by kernel_rfl
theorem lQ : az cfg 85 eE = true := by kernel_rfl
theorem td : az cfg 86 ko = true := by kernel_rfl
theorem qY : az cfg 87 jz = true := by kernel_rfl
theorem oO : az cfg 88 iu = true := by kernel_rfl
theorem ob : az cfg 89 gS = true := by kernel_rfl
theorem lB : az cfg 90 ea = true := by kernel_rfl
theorem yy : az cfg 91 no = true := by kernel_rfl
theorem Vn : ∀ g fc, D g = some fc → az cfg g fc = true := by
 intro g fc h;unfold D at h;split at h
 ·cases h; exact kU
 ·cases h; exact mF
 ·cases h; exact nk
 ·cases h; exact my
 ·cases h; exact nl
 ·cases h; exact oc
 ·cases h; exact nS
 ·cases h; exact nh
 ·cases h; exact pQ
 ·cases h; exact qR
 ·cases h; exact qQ
 ·cases h; exact mG
 ·cases h; exact oM
 ·cases h; exact pS
 ·cases h; exact Ff
 ·cases h; exact mD
 ·cases h; exact vu
 ·cases h; exact mA
 ·cases h; exact nT
 ·cases h; exact yu
 ·cases h; exact mE
 ·cases h; exact o7
 ·cases h; exact oq
 ·cases h; exact ou
 ·cases h; exact oo
 ·cases h; exact nK
 ·cases h; exact oa
 ·cases h; exact pP
 ·cases h; exact tq
 ·cases h; exact qX
 ·cases h; exact q6
 ·cases h; exact qc
 ·cases h; exact pC
 ·cases h; exact mY
 ·cases h; exact pu
 ·cases h; exact pM
 ·cases h; exact Bn
 ·cases h; exact mW
 ·cases h; exact nA
 ·cases h; exact vC
 ·cases h; exact pz
 ·cases h; exact nW
 ·cases h; exact ng
 ·cases h; exact oz
 ·cases h; exact py
 ·cases h; exact oI
 ·cases h; exact og
 ·cases h; exact oi
 ·cases h; exact wI
 ·cases h; exact mz
 ·cases h; exact kB
 ·cases h; exact qn
 ·cases h; exact pw
 ·cases h; exact vK
 ·cases h; exact qh
 ·cases h; exact vJ
 ·cases h; exact pA
 ·cases h; exact ua
 ·cases h; exact mC
 ·cases h; exact mH
 ·cases h; exact rG
 ·cases h; exact nC
 ·cases h; exact m6
 ·cases h; exact pv
 ·cases h; exact pj
 ·cases h; exact qv
 ·cases h; exact vE
 ·cases h; exact vz
 ·cases h; exact yq
 ·cases h; exact oA
 ·cases h; exact vD
 ·cases h; exact mV
 ·cases h; exact nF
 ·cases h; exact mJ
 ·cases h; exact mX
 ·cases h; exact mI
 ·cases h; exact nR
 ·cases h; exact sV
 ·cases h; exact vB
 ·cases h; exact BA
 ·cases h; exact lQ
 ·cases h; exact td
 ·cases h; exact qY
 ·cases h; exact oO
 ·cases h; exact ob
 ·cases h; exact lB
 ·cases h; exact yy
 ·cases h
theorem ctx : Ctx cfg D := ⟨RZ, TL, RD, Vn⟩
theorem own : ownKnob Tryd.prog.godebug = none := by kernel_rfl
theorem RX : laidOutB Tryd.prog = true := by kernel_rfl
end Go.Proofs.YtmimfopnhmmlbaaDoor
