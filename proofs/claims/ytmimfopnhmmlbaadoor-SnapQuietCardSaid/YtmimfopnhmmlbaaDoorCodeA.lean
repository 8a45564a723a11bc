/-
  YtmimfopnhmmlbaaDoorCode: the code of the functions that this seat's laws reach, in the form of Ab1 (printed by a program out of the translation; held against it in YtmimfopnhmmlbaaDoorChk).
-/
import Derived.Test.YtmimfopnhmmlbaaDoorAbG
import Derived.KernelRfl
set_option maxRecDepth 100000
namespace Go.Proofs.YtmimfopnhmmlbaaDoor
open Go.Ab
noncomputable section
variable {b : Nat} {ρ : Env} {s : St}
def wv : V := .ptr (.hp 0) [] 108
@[go_sem] theorem V9 : wv = .ptr (.hp 0) [] 108 := nd rfl
def kV : List Int := [0, 1, 56, 2, 57, 49, 28, 3, 61, 58, 42, 50, 38, 29, 17, 4, 62, 47, 59, 36, 45, 43, 51, 22, 53, 39, 33, 30, 24, 18, 12, 5, 63, 55, 48, 27, 60, 41, 37, 16, 46, 35, 44, 21, 52, 32, 23, 11, 54, 26, 40, 15, 34, 20, 31, 10, 25, 14, 19, 9, 13, 8, 7, 6]
def cE : V := .agg 108 (kV.map (.int .u8))
def G : List Blk := [.ro cE]
def ix:Nat:=4
def dJ:Nat:=5
def bf:Nat:=6
def dv:Nat:=7
def aE:Nat:=9
def ep:Nat:=10
def em:Nat:=11
def bV:Nat:=12
def bL:Nat:=13
def bn:Nat:=14
def aY:Nat:=15
def dM:Nat:=16
def cB:Nat:=17
def gF:Nat:=18
def mm:Nat:=19
def dL:Nat:=20
def db:Nat:=21
def bK:Nat:=22
def ei:Nat:=23
def lN:Nat:=24
def dK:Nat:=25
def fb:Nat:=26
def eD:Nat:=27
def fa:Nat:=28
def dh:Nat:=29
def bg:Nat:=30
def eB:Nat:=31
def bM:Nat:=32
def jm:Nat:=33
def dD:Nat:=34
def dC:Nat:=35
def dk:Nat:=36
def cP:Nat:=37
def dZ:Nat:=38
def bj:Nat:=39
def dn:Nat:=40
def mQ:Nat:=41
def dW:Nat:=42
def dV:Nat:=43
def gT:Nat:=44
def bB:Nat:=45
def bF:Nat:=46
def bi:Nat:=47
def bP:Nat:=48
def aV:Nat:=49
def cD:Nat:=50
def cW:Nat:=51
def cj:Nat:=52
def kQ:Nat:=53
def dq:Nat:=54
def cw:Nat:=55
def aT:Nat:=56
def cQ:Nat:=57
def je:Nat:=58
def dm:Nat:=59
def iR:Nat:=60
def cO:Nat:=61
def jH:Nat:=62
def dH:Nat:=63
def bJ:Nat:=64
def cv:Nat:=65
def d6:Nat:=66
def bX:Nat:=67
def bD:Nat:=68
def bd:Nat:=69
def a8:Nat:=70
def km:Nat:=71
def j6:Nat:=72
def fR:Nat:=73
def eZ:Nat:=74
def jU:Nat:=75
def bw:Nat:=76
def bW:Nat:=77
def cJ:Nat:=78
def aQ:Nat:=79
def dI:Nat:=80
def eh:Nat:=81
def cR:Nat:=82
def kb:Nat:=83
def mU:Nat:=84
def dg:Nat:=85
def bI:Nat:=86
def cM:Nat:=87
def eY:Nat:=88
def bl:Nat:=89
def cU:Nat:=90
def lS:Nat:=91
def Ue:C:=zR [0,1] [zm 4 (.k (.bool false))]
def Us:C:=zR [0,1,5] [zC 19 (zf dJ) [],zm 5 19]
def UV:C:=zR [0,1,5,7,8] [zC 21 (zf bf) [(zi 300),(zi 12)],zm 20 21,zE 22 20 0,zE 23 20 1,zE 24 20 2,zm 6 22,zm 7 23,zm 8 24]
def TO:C:=zR [0,1,7,8,30] [zm 25 5,zq 26 (.un .not 25),zm 27 26,zg 28 27 false (.mv 8),zg 29 27 false (.eq false 1 28 (.k .nilp)),zP 30 27 (.k (.bool true)) 29]
def TQ:C:=zR [4] [zm 4 (.k (.bool false))]
def UI:C:=zR [0,1,7,8,9] [zm 9 (zi 0)]
def UO:C:=zR [0,1,7,8,9,38] [zm 31 9,zm 32 0,zq 33 (.len false 32),zB 34 .lss 31 33,zm 35 34,zg 36 35 true (.mv 9),zg 37 35 true (.bin .lss 36 (zi 20)),zP 38 35 37 (.k (.bool false))]
def U7:C:=zR [0,1,7,8,9] [zm 41 7,zm 42 0,zm 43 9,zq 44 (.sad 54 42 43),zL 45 54 44,zC 46 (zf dv) [41,45]]
def T6:C:=zR [0,1,7,8,9] [zm 39 9,zB 40 .add 39 (zi 1),zm 9 40]
def T3:C:=zR [1,7,8,10] [zm 47 7,zC 48 (zf bV) [47],zq 10 (.alloc false (.agg 48 (List.replicate 49 (.agg 42 [(.int .i64 0),(.int .i64 0),(.int .i64 0)])))),zS 48 10 48]
def Q5:C:=zR [1,7,8,10,11] [zq 49 (.bld (.agg 30 (List.replicate 49 (.agg 26 [(.int .i64 0),(.int .i64 0),(.agg 24 (List.replicate 8 (.int .u64 0)))]))) []),zq 11 (.alloc false (.agg 30 (List.replicate 49 (.agg 26 [(.int .i64 0),(.int .i64 0),(.agg 24 (List.replicate 8 (.int .u64 0)))])))),zS 30 11 49]
def Om:C:=zR [1,7,8,10,11,12] [zm 12 (zi 0)]
def Ii:C:=zR [1,7,8,10,11,12,51] [zm 50 12,zB 51 .lss 50 (zi 49)]
def LJ:C:=zR [1,7,8,10,11,12] [zm 55 12,zm 56 7,zm 57 12,zC 58 (zf cB) [56,57],zm 54 58,zE 59 54 0,zE 60 54 1,zq 61 (.iad 30 49 26 11 55),zS 26 61 59]
def Me:C:=zR [1,7,8,10,11,12] [zm 52 12,zB 53 .add 52 (zi 1),zm 12 53]
def Ql:C:=zR [7,8,10,11] [zm 62 8,zm 63 1,zC 64 (zf aE) [63,(zi 100)],zC 65 (zf bL) [62,64]]
def QO:C:=zR [7,8,10,11,13] [zm 13 (zi 0)]
def MZ:C:=zR [7,8,10,11,13,72] [zm 66 13,zB 67 .lss 66 (zi 60),zm 68 67,zg 69 68 true (.mv 8),zg 70 68 true (.call (zf bn) [69]),zg 71 68 true (.bin .gtr 70 (zi 0)),zP 72 68 71 (.k (.bool false))]
def PT:C:=zR [7,8,10,11,13,15] [zm 76 8,zC 77 (zf aY) [76],zm 75 77,zE 78 75 0,zE 79 75 1,zm 14 78,zm 15 79]
def Qk:C:=zD [7,8,10,11,13,87] [zm 80 15,zB 81 .neq 80 (zi 0),zm 82 81,zg 83 82 false (.mv 7),zg 84 82 false (.pcall (zf bV) [83]),zg 85 82 false (.ld 48 10),zg 86 82 false (.eq true 48 84 85),zP 87 82 (.k (.bool true)) 86]
def Jq:C:=zR [4] [zm 4 (.k (.bool false))]
def IQ:C:=zR [7,8,10,11,13] [zm 73 13,zB 74 .add 73 (zi 1),zm 13 74]
def MA:C:=zR [7,8,11,16] [zm 16 (zi 0)]
def MO:C:=zR [7,8,11,16,89] [zm 88 16,zB 89 .lss 88 (zi 49)]
def P2:C:=zR [7,8,11,16,17] [zm 93 7,zm 94 16,zC 95 (zf cB) [93,94],zm 92 95,zE 96 92 0,zE 97 92 1,zq 17 (.alloc false (.agg 26 [(.int .i64 0),(.int .i64 0),(.agg 24 (List.replicate 8 (.int .u64 0)))])),zS 26 17 96,zm 18 97]
def M6:C:=zD [7,8,11,16,102] [zL 98 26 17,zm 99 16,zq 100 (.iad 30 49 26 11 99),zL 101 26 100,zq 102 (.eq true 26 98 101)]
def N5:C:=zR [4] [zm 4 (.k (.bool false))]
def JZ:C:=zR [7,8,11,16] [zm 90 16,zB 91 .add 90 (zi 1),zm 16 91]
def I8:C:=zR [4] [zm 103 8,zC 104 (zf bn) [103],zB 105 .eql 104 (zi 0),zm 4 105]
def bt:C:=.seq (.seq UO (.cond (.t 38) (.skip) (.exit 0))) (.seq (.block 1 U7) T6)
def ch:C:=.seq (.seq Ii (.cond (.t 51) (.skip) (.exit 2))) (.seq (.block 3 LJ) Me)
def aP:C:=.seq (.seq MZ (.cond (.t 72) (.skip) (.exit 4))) (.seq (.block 5 (.seq PT (.seq Qk (.cond (.t 87) (.seq Jq (.ret)) (.skip))))) IQ)
def ce:C:=.seq (.seq MO (.cond (.t 89) (.skip) (.exit 6))) (.seq (.block 7 (.seq P2 (.seq M6 (.cond (.t 102) (.seq N5 (.ret)) (.skip))))) JZ)
@[go_sem] def dS:Fc:=⟨2,.seq Ue (.seq Us (.seq UV (.seq (.seq TO (.cond (.t 30) (.seq TQ (.ret)) (.skip))) (.seq (.seq UI (.block 0 (.loop [0,1,7,8,9] bt))) (.seq T3 (.seq Q5 (.seq (.seq Om (.block 2 (.loop [1,7,8,10,11,12] ch))) (.seq Ql (.seq (.seq QO (.block 4 (.loop [7,8,10,11,13] aP))) (.seq (.seq MA (.block 6 (.loop [7,8,11,16] ce))) (.seq I8 (.ret)))))))))))),[.t 4]⟩
def Un:C:=zR [] [zm 0 (.k (.bool false))]
def UX:C:=zR [3] [zC 18 (zf bf) [(zi 80),(zi 3)],zm 17 18,zE 19 17 0,zE 20 17 1,zE 21 17 2,zm 1 19,zm 2 20,zm 3 21]
def TD:C:=zR [3,23] [zm 22 3,zq 23 (.eq false 1 22 (.k .nilp))]
def Uk:C:=zR [0] [zm 0 (.k (.bool false))]
def U6:C:=zR [3,5] [zm 25 3,zC 26 (zf aY) [25],zm 24 26,zE 27 24 0,zE 28 24 1,zm 4 27,zm 5 28]
def UD:C:=zR [3,5,6] [zm 29 3,zC 30 (zf bL) [29,(zi (-1))],zm 6 30]
def TW:C:=zR [3,5,6,7] [zm 31 3,zC 32 (zf bL) [31,(zi 0)],zm 7 32]
def Va:C:=zR [3,5,6,7,8] [zm 33 3,zC 34 (zf bn) [33],zm 8 34]
def TC:C:=zR [3,5,6,7,8,9,10] [zm 36 3,zC 37 (zf aY) [36],zm 35 37,zE 38 35 0,zE 39 35 1,zm 9 38,zm 10 39]
def UM:C:=zR [3,5,6,7,8,9,10,11,12] [zm 41 3,zC 42 (zf aY) [41],zm 40 42,zE 43 40 0,zE 44 40 1,zm 11 43,zm 12 44]
def QE:C:=zR [3,5,6,7,8,9,10,11,12,13,14] [zm 46 3,zC 47 (zf aY) [46],zm 45 47,zE 48 45 0,zE 49 45 1,zm 13 48,zm 14 49]
def K7:C:=zR [3,5,6,7,8,9,10,11,12,13,14,15,16] [zm 51 3,zC 52 (zf gF) [51],zm 50 52,zE 53 50 0,zE 54 50 1,zq 15 (.alloc false (.agg 44 [(.int .i64 0),(.int .i64 0),(.int .i64 0),(.int .i64 0)])),zS 44 15 53,zm 16 54]
def KA:C:=zR [0] [zm 55 5,zB 56 .eql 55 (zi 3),zm 57 56,zg 58 57 true (.mv 6),zg 59 57 true (.bin .eql 58 (zi 1)),zP 60 57 59 (.k (.bool false)),zm 61 60,zg 62 61 true (.mv 7),zg 63 61 true (.bin .eql 62 (zi 0)),zP 64 61 63 (.k (.bool false)),zm 65 64,zg 66 65 true (.mv 8),zg 67 65 true (.bin .eql 66 (zi 3)),zP 68 65 67 (.k (.bool false)),zm 69 68,zg 70 69 true (.mv 9),zg 71 69 true (.un .not 70),zP 72 69 71 (.k (.bool false)),zm 73 72,zg 74 73 true (.mv 10),zg 75 73 true (.bin .eql 74 (zi 0)),zP 76 73 75 (.k (.bool false)),zm 77 76,zg 78 77 true (.mv 11),zg 79 77 true (.un .not 78),zP 80 77 79 (.k (.bool false)),zm 81 80,zg 82 81 true (.mv 12),zg 83 81 true (.bin .eql 82 (zi 0)),zP 84 81 83 (.k (.bool false)),zm 85 84,zg 86 85 true (.mv 13),zP 87 85 86 (.k (.bool false)),zm 88 87,zg 89 88 true (.mv 14),zg 90 88 true (.bin .eql 89 (zi 0)),zP 91 88 90 (.k (.bool false)),zm 92 91,zg 93 92 true (.fad 44 0 10 15),zg 94 92 true (.ld 10 93),zg 95 92 true (.bin .eql 94 (zi 2)),zP 96 92 95 (.k (.bool false)),zm 97 96,zg 98 97 true (.mv 16),zg 99 97 true (.bin .eql 98 (zi 1)),zP 100 97 99 (.k (.bool false)),zm 101 100,zg 102 101 true (.mv 3),zg 103 101 true (.call (zf bn) [102]),zg 104 101 true (.bin .eql 103 (zi 0)),zP 105 101 104 (.k (.bool false)),zm 0 105]
@[go_sem] def fA:Fc:=⟨0,.seq Un (.seq UX (.seq (.seq TD (.cond (.t 23) (.seq Uk (.ret)) (.skip))) (.seq U6 (.seq UD (.seq TW (.seq Va (.seq TC (.seq UM (.seq QE (.seq K7 (.seq KA (.ret)))))))))))),[.t 0]⟩
def TT:C:=zR [0,1] [zm 4 (.k .nilp),zm 5 (.k .nilp),zm 6 (.k .nilp)]
def Ug:C:=zR [1,7] [zm 12 0,zm 13 1,zC 14 (zf dL) [12,13],zC 15 (zf mm) [14],zm 11 15,zE 16 11 0,zE 17 11 1,zm 7 16,zm 8 17]
def Uw:C:=zR [1,7,19] [zm 18 7,zq 19 (.eq false 1 18 (.k .nilp))]
def Uy:C:=zR [4,5,6] [zm 4 (.k .nilp),zm 5 (.k .nilp),zm 6 (.k .nilp)]
def TU:C:=zR [7,9] [zm 21 7,zm 22 1,zC 23 (zf bK) [22],zC 24 (zf ei) [],zC 25 (zf db) [21,(zi 10),23,24],zm 20 25,zE 26 20 0,zE 27 20 1,zm 9 26,zm 10 27]
def Uo:C:=zR [7,9,29] [zm 28 9,zq 29 (.eq false 1 28 (.k .nilp))]
def UF:C:=zR [4,5,6] [zm 4 (.k .nilp),zm 5 (.k .nilp),zm 6 (.k .nilp)]
def Ve:C:=zR [4,5,6] [zm 30 7,zm 31 9,zm 32 7,zm 33 9,zC 34 (zf dK) [],zC 35 (zf lN) [32,33,34,(zi 0)],zm 4 30,zm 5 31,zm 6 35]
@[go_sem] def gc:Fc:=⟨2,.seq TT (.seq Ug (.seq (.seq Uw (.cond (.t 19) (.seq Uy (.ret)) (.skip))) (.seq TU (.seq (.seq Uo (.cond (.t 29) (.seq UF (.ret)) (.skip))) (.seq Ve (.ret)))))),[.t 4,.t 5,.t 6]⟩
def TA:C:=zR [0,3] [zq 3 (.box false 1)]
def UN:C:=zR [0,3,6] [zF 4 54 0 10 3,zL 5 10 4,zC 6 (zf aE) [5,(zi 4)]]
def T5:C:=zR [0,3,6,7] [zB 8 .eql 6 (zi 0),zm 7 8]
def TR:C:=zR [0,3,6,7] [zB 9 .eql 6 (zi 1),zm 7 9]
def U0:C:=zD [] [zm 10 0,zF 11 54 1 10 3,zL 12 10 11,zq 13 (.pcall (zf aE) [12,(zi 20)]),zF 14 54 2 10 3,zL 15 10 14,zq 16 (.pcall (zf aE) [15,(zi 8)]),zF 17 54 3 18 3,zL 18 18 17,zC 19 (zf fb) [10,13,16,18]]
def UC:C:=zR [0,3,6,20] [zB 21 .eql 6 (zi 2),zm 20 21]
def Ur:C:=zR [] [zm 22 0,zF 23 54 2 10 3,zL 24 10 23,zC 25 (zf aE) [24,(zi 2)],zB 26 .add (zi 1) 25,zC 27 (zf eD) [22,26]]
def UK:C:=zR [0,3,28] [zB 29 .eql 6 (zi 3),zm 28 29]
def T8:C:=zR [] [zm 30 0,zF 31 54 1 10 3,zL 32 10 31,zC 33 (zf aE) [32,(zi 20)],zC 34 (zf fa) [30,33]]
@[go_sem] def eV:Fc:=⟨2,.seq TA (.seq UN (.block 0 (.seq (.seq T5 (.cond (.t 7) (.skip) TR)) (.cond (.t 7) U0 (.seq UC (.cond (.t 20) Ur (.seq UK (.cond (.t 28) T8 (.skip))))))))),[]⟩
def Uv:C:=zR [0,1] [zm 4 (zi 0)]
def Uq:C:=zR [0,1,6] [zm 5 0,zB 6 .lss 5 (zi 0)]
def Ux:C:=zR [0,1] [zm 7 0,zB 8 .add 7 (zi 1),zq 9 (.un .neg 8),zm 0 9]
def Uz:C:=zR [4] [zm 10 0,zm 11 1,zB 12 .rem 10 11,zm 4 12]
@[go_sem] def fZ:Fc:=⟨2,.seq Uv (.seq (.seq Uq (.cond (.t 6) Ux (.skip))) (.seq Uz (.ret))),[.t 4]⟩
def Kj:C:=zR [0] [zm 2 (zi 0),zm 3 (zi 0)]
def PL:C:=zR [2,3] [zm 4 0,zN 5 4,zF 6 43 1 1 5,zL 7 1 6,zC 8 (zf bg) [7],zE 9 8 0,zE 10 8 1,zm 2 9,zm 3 10]
@[go_sem] def gZ:Fc:=⟨1,.seq Kj (.seq PL (.ret)),[.t 2,.t 3]⟩
def QJ:C:=zR [0,2,3] [zq 2 (.alloc false (.agg 48 (List.replicate 49 (.agg 42 [(.int .i64 0),(.int .i64 0),(.int .i64 0)])))),zq 3 (.alloc false (.agg 50 (List.replicate 8 (.int .i64 0))))]
def Na:C:=zD [2,3] [zm 4 0,zN 5 4,zF 6 43 3 48 5,zL 7 48 6,zm 8 0,zN 9 8,zF 10 43 4 50 9,zq 11 (.lda 50 10 0),zw (.sta 48 2 7 [0]),zS 50 3 11]
@[go_sem] def gM:Fc:=⟨1,.seq QJ (.seq Na (.ret)),[.cell 2 48,.cell 3 50]⟩
def PZ:C:=zR [0,2] [zq 2 (.alloc false (.agg 48 (List.replicate 49 (.agg 42 [(.int .i64 0),(.int .i64 0),(.int .i64 0)]))))]
def Qy:C:=zR [2] [zm 3 0,zN 4 3,zF 5 43 2 48 4,zL 6 48 5,zS 48 2 6]
@[go_sem] def f9:Fc:=⟨1,.seq PZ (.seq Qy (.ret)),[.cell 2 48]⟩
def Lc:C:=zR [0,1] [zm 4 (zi 0)]
def J6:C:=zR [0,1,15] [zm 16 0,zN 17 16,zF 18 61 4 1 17,zL 19 1 18,zq 20 (.len false 19),zB 21 .gtr 20 (zi 0),zm 15 21]
def OE:C:=zR [4] [zm 4 (zi 3)]
def QV:C:=zR [0,1,22] [zm 23 1,zB 24 .lss 23 (zi 0),zm 22 24]
def MJ:C:=zR [0,1,22] [zm 25 1,zB 26 .gtr 25 (zi 1099511627776),zm 22 26]
def LG:C:=zR [0,1,22] [zm 27 0,zN 28 27,zF 29 61 2 44 28,zF 30 44 0 10 29,zL 31 10 30,zB 32 .geq 31 (zi 1099511627776),zm 22 32]
def Rc:C:=zR [4] [zm 4 (zi 1)]
def LR:C:=zR [0,1,5] [zm 33 0,zN 34 33,zF 35 61 1 1 34,zL 36 1 35,zC 37 (zf eB) [36],zm 5 37]
def LX:C:=zR [0,1,5,39] [zm 38 5,zB 39 .neq 38 (zi 0)]
def Jr:C:=zR [4] [zm 40 5,zm 4 40]
def Cx:C:=zR [0,1] [zm 42 0,zm 43 0,zN 44 43,zF 45 61 1 1 44,zL 46 1 45,zC 47 (zf dM) [46],zm 41 47,zE 48 41 0,zE 49 41 1,zN 50 42,zF 51 61 6 48 50,zS 48 51 48]
def Er:C:=zR [0,1,6,7] [zm 53 0,zN 54 53,zF 55 61 1 1 54,zL 56 1 55,zC 57 (zf em) [56],zm 52 57,zE 58 52 0,zE 59 52 1,zq 6 (.alloc false (.agg 48 (List.replicate 49 (.agg 42 [(.int .i64 0),(.int .i64 0),(.int .i64 0)])))),zq 7 (.alloc false (.agg 50 (List.replicate 8 (.int .i64 0)))),zS 48 6 58,zS 50 7 59]
def DO:C:=zD [0,6] [zm 60 0,zm 61 0,zm 62 1,zL 63 50 7,zN 64 60,zF 65 61 5 10 64,zw (.sta 10 65 62 [7]),zN 66 61,zF 67 61 7 50 66,zS 50 67 63]
def EB:C:=zR [0,6,8] [zq 8 (.alloc false (.agg 82 (List.replicate 1024 (.bool false))))]
def Eg:C:=zR [0,6,8,68,69] [zL 68 48 6,zm 69 (zi 0)]
def C7:C:=zR [0,6,8,68,69,70] [zB 70 .lss 69 (zi 49)]
def CJ:C:=zR [0,6,8,10,68,69] [zq 71 (.idx 48 49 68 69),zq 10 (.alloc false (.agg 42 [(.int .i64 0),(.int .i64 0),(.int .i64 0)])),zS 42 10 71]
def C1:C:=zR [0,6,8,10,68,69,74] [zF 72 42 0 10 10,zL 73 10 72,zB 74 .neq 73 (zi 0)]
def CG:C:=zR [0,6,8,68,69] [zF 75 42 2 10 10,zL 76 10 75,zq 77 (.iad 82 1024 0 8 76),zS 0 77 (.k (.bool true))]
def CY:C:=zR [0,6,8,68,69] [zB 78 .add 69 (zi 1),zm 69 78]
def Eb:C:=zR [0,6,8,82,83] [zm 79 0,zN 80 79,zF 81 61 6 48 80,zL 82 48 81,zm 83 (zi 0)]
def CE:C:=zR [0,6,8,82,83,84] [zB 84 .lss 83 (zi 49)]
def Dw:C:=zR [0,6,8,12,82,83] [zq 85 (.idx 48 49 82 83),zq 12 (.alloc false (.agg 42 [(.int .i64 0),(.int .i64 0),(.int .i64 0)])),zS 42 12 85]
def FB:C:=zR [0,6,8,12,82,83,95] [zF 86 42 0 10 12,zL 87 10 86,zB 88 .neq 87 (zi 0),zm 89 88,zg 90 89 true (.fad 42 2 10 12),zg 91 89 true (.ld 10 90),zg 92 89 true (.iad 82 1024 0 8 91),zg 93 89 true (.ld 0 92),zg 94 89 true (.un .not 93),zP 95 89 94 (.k (.bool false))]
def E6:C:=zD [0,6,8,82,83] [zm 96 0,zm 97 0,zN 98 97,zF 99 61 4 1 98,zL 100 1 99,zF 101 42 2 10 12,zL 102 10 101,zq 103 (.bld (.agg 47 [.nilf,(.int .i64 0)]) [(0,(zf bM)),(1,102)]),zq 104 (.bsl false 63 47 (.agg 47 [.nilf,(.int .i64 0)]) 1 [(0,103)]),zq 105 (.app true 63 47 100 104),zN 106 96,zF 107 61 4 1 106,zS 1 107 105]
def Dh:C:=zR [0,6,8,82,83] [zB 108 .add 83 (zi 1),zm 83 108]
def CP:C:=zD [0,114,115,116] [zm 109 0,zN 110 109,zF 111 61 6 48 110,zL 112 48 111,zL 113 48 6,zC 114 (zf jm) [112,113],zq 115 (.len false 114),zm 116 (zi 0)]
def ES:C:=zR [0,114,115,116,117] [zB 117 .lss 116 115]
def Cs:C:=zR [0,14,114,115,116] [zq 118 (.sad 10 114 116),zL 119 10 118,zm 14 119]
def Cp:C:=zR [0,114,115,116] [zm 120 0,zm 121 0,zN 122 121,zF 123 61 4 1 122,zL 124 1 123,zm 125 14,zq 126 (.bld (.agg 47 [.nilf,(.int .i64 0)]) [(0,(zf dD)),(1,125)]),zq 127 (.bsl false 63 47 (.agg 47 [.nilf,(.int .i64 0)]) 1 [(0,126)]),zq 128 (.app true 63 47 124 127),zN 129 120,zF 130 61 4 1 129,zS 1 130 128]
def Fg:C:=zR [0,114,115,116] [zB 131 .add 116 (zi 1),zm 116 131]
def Cw:C:=zR [] [zm 132 0,zm 133 0,zN 134 133,zF 135 61 4 1 134,zL 136 1 135,zq 137 (.bld (.agg 47 [.nilf,(.int .i64 0)]) [(0,(zf dC))]),zq 138 (.bld (.agg 47 [.nilf,(.int .i64 0)]) [(0,(zf dk))]),zq 139 (.bld (.agg 47 [.nilf,(.int .i64 0)]) [(0,(zf cP))]),zq 140 (.bsl false 63 47 (.agg 47 [.nilf,(.int .i64 0)]) 3 [(0,137),(1,138),(2,139)]),zq 141 (.app true 63 47 136 140),zN 142 132,zF 143 61 4 1 142,zS 1 143 141]
def Dy:C:=zR [4] [zm 4 (zi 0)]
def dA:C:=.seq C7 (.seq (.cond (.t 70) (.skip) (.exit 1)) (.seq (.block 2 (.seq CJ (.seq C1 (.cond (.t 74) CG (.skip))))) CY))
def cC:C:=.seq CE (.seq (.cond (.t 84) (.skip) (.exit 3)) (.seq (.block 4 (.seq Dw (.seq FB (.cond (.t 95) E6 (.skip))))) Dh))
def fd:C:=.seq ES (.seq (.cond (.t 117) (.skip) (.exit 5)) (.seq (.block 6 (.seq Cs Cp)) Fg))
@[go_sem] def iP:Fc:=⟨2,.seq Lc (.seq (.block 0 (.seq J6 (.cond (.t 15) (.seq OE (.ret)) (.seq (.seq QV (.cond (.t 22) (.skip) (.seq MJ (.cond (.t 22) (.skip) LG)))) (.cond (.t 22) (.seq Rc (.ret)) (.skip)))))) (.seq (.seq LR (.seq LX (.cond (.t 39) (.seq Jr (.ret)) (.skip)))) (.seq Cx (.seq Er (.seq DO (.seq EB (.seq (.seq Eg (.block 1 (.loop [0,6,8,68,69] dA))) (.seq (.seq Eb (.block 3 (.loop [0,6,8,82,83] cC))) (.seq (.seq CP (.block 5 (.loop [0,114,115,116] fd))) (.seq Cw (.seq Dy (.ret)))))))))))),[.t 4]⟩
def PO:C:=zR [0] [zm 2 (zi 0)]
def LB:C:=zR [2] [zm 3 0,zN 4 3,zF 5 61 4 1 4,zL 6 1 5,zq 7 (.len false 6),zm 2 7]
@[go_sem] def ju:Fc:=⟨1,.seq PO (.seq LB (.ret)),[.t 2]⟩
def KW:C:=zR [0] [zm 2 (.k (.bool false)),zm 3 (zi 0)]
def M0:C:=zR [0,11] [zm 6 0,zN 7 6,zF 8 61 4 1 7,zL 9 1 8,zq 10 (.len false 9),zB 11 .eql 10 (zi 0)]
def Pw:C:=zR [2,3] [zm 2 (.k (.bool false)),zm 3 (zi 3)]
def OL:C:=zR [0,4] [zm 12 0,zN 13 12,zF 14 61 4 1 13,zL 15 1 14,zq 16 (.sad 47 15 (zi 0)),zL 17 47 16,zq 4 (.alloc false (.agg 47 [.nilf,(.int .i64 0)])),zS 47 4 17]
def Kf:C:=zR [0,5] [zF 18 47 0 1 4,zL 19 1 18,zm 20 0,zF 21 47 1 10 4,zL 22 10 21,zC 23 19 [20,22],zm 5 23]
def Ix:C:=zR [0,5,24] [zm 24 5]
def Kl:C:=zR [0,5,24,26] [zB 27 .eql 24 (zi 0),zm 26 27]
def La:C:=zR [0] [zm 28 0,zm 29 0,zN 30 29,zF 31 61 4 1 30,zL 32 1 31,zq 33 (.slc 47 32 (some (zi 1)) none none),zN 34 28,zF 35 61 4 1 34,zS 1 35 33]
def Mb:C:=zR [2,3] [zm 36 0,zN 37 36,zF 38 61 4 1 37,zL 39 1 38,zq 40 (.len false 39),zB 41 .eql 40 (zi 0),zm 2 41,zm 3 (zi 0)]
def Oh:C:=zR [0,5,42] [zB 43 .eql 24 (zi 10),zm 42 43]
def Cz:C:=zR [0,5] [zm 44 0,zN 45 44,zF 46 61 1 1 45,zL 47 1 46,zC 48 (zf dZ) [47]]
def Ej:C:=zR [5] [zm 49 0,zN 50 49,zF 51 61 4 1 50,zS 1 51 (.k .nils)]
def EN:C:=zR [2,3] [zm 52 5,zm 2 (.k (.bool false)),zm 3 52]
def B6:C:=zR [2,3] [zm 25 5,zm 2 (.k (.bool false)),zm 3 25]
@[go_sem] def jv:Fc:=⟨1,.seq KW (.seq (.seq M0 (.cond (.t 11) (.seq Pw (.ret)) (.skip))) (.seq OL (.seq Kf (.seq Ix (.block 0 (.seq Kl (.cond (.t 26) (.seq La (.seq Mb (.ret))) (.seq Oh (.cond (.t 42) (.seq Cz (.seq Ej (.seq EN (.ret)))) (.seq B6 (.ret))))))))))),[.t 2,.t 3]⟩
def QF:C:=zR [0,2] [zq 2 (.alloc false (.agg 48 (List.replicate 49 (.agg 42 [(.int .i64 0),(.int .i64 0),(.int .i64 0)])))),zm 3 (.k (.bool false))]
def N8:C:=zR [0,2,8] [zm 4 0,zN 5 4,zF 6 43 6 0 5,zL 7 0 6,zq 8 (.un .not 7)]
def Iz:C:=zR [2,3] [zL 9 48 2,zS 48 2 9,zm 3 (.k (.bool false))]
def Jg:C:=zR [2,3] [zm 10 0,zN 11 10,zF 12 43 5 48 11,zL 13 48 12,zS 48 2 13,zm 3 (.k (.bool true))]
@[go_sem] def fq:Fc:=⟨1,.seq QF (.seq (.seq N8 (.cond (.t 8) (.seq Iz (.ret)) (.skip))) (.seq Jg (.ret))),[.cell 2 48,.t 3]⟩
def ID:C:=zR [0,1,4] [zq 4 (.alloc false (.agg 26 [(.int .i64 0),(.int .i64 0),(.agg 24 (List.replicate 8 (.int .u64 0)))])),zm 5 (zi 0)]
def J7:C:=zR [0,1,4,6] [zm 10 0,zm 11 1,zC 12 (zf bj) [10,11],zm 6 12]
def KF:C:=zR [0,1,4,6,14] [zm 13 6,zB 14 .neq 13 (zi 0)]
def Pl:C:=zR [4,5] [zq 15 (.bld (.agg 26 [(.int .i64 0),(.int .i64 0),(.agg 24 (List.replicate 8 (.int .u64 0)))]) []),zm 16 6,zS 26 4 15,zm 5 16]
def LD:C:=zR [0,4,7] [zm 17 0,zm 18 1,zN 19 17,zF 20 43 2 48 19,zq 21 (.iad 48 49 42 20 18),zL 22 42 21,zq 7 (.alloc false (.agg 42 [(.int .i64 0),(.int .i64 0),(.int .i64 0)])),zS 42 7 22]
def IM:C:=zD [4,7,8,9] [zm 24 0,zN 25 24,zF 26 43 0 1 25,zL 27 1 26,zF 28 42 2 10 7,zL 29 10 28,zq 30 (.pcall (zf dn) [27,29]),zm 23 30,zE 31 23 0,zE 32 23 1,zq 8 (.alloc false (.agg 24 (List.replicate 8 (.int .u64 0)))),zS 24 8 31,zm 9 32]
def NX:C:=zR [4,7,8,9,34] [zm 33 9,zB 34 .neq 33 (zi 0)]
def KT:C:=zR [4,5] [zq 35 (.bld (.agg 26 [(.int .i64 0),(.int .i64 0),(.agg 24 (List.replicate 8 (.int .u64 0)))]) []),zm 36 9,zS 26 4 35,zm 5 36]
def Qu:C:=zR [4,5] [zF 37 42 0 10 7,zL 38 10 37,zF 39 42 1 10 7,zL 40 10 39,zL 41 24 8,zq 42 (.bld (.agg 26 [(.int .i64 0),(.int .i64 0),(.agg 24 (List.replicate 8 (.int .u64 0)))]) [(0,38),(1,40),(2,41)]),zS 26 4 42,zm 5 (zi 0)]
@[go_sem] def ie:Fc:=⟨2,.seq ID (.seq (.seq J7 (.seq KF (.cond (.t 14) (.seq Pl (.ret)) (.skip)))) (.seq LD (.seq IM (.seq (.seq NX (.cond (.t 34) (.seq KT (.ret)) (.skip))) (.seq Qu (.ret)))))),[.cell 4 26,.t 5]⟩
def Nm:C:=zR [0,2] [zq 2 (.alloc false (.agg 44 [(.int .i64 0),(.int .i64 0),(.int .i64 0),(.int .i64 0)])),zm 3 (zi 0)]
def Jd:C:=zD [2,3] [zm 4 0,zN 5 4,zF 6 61 2 44 5,zL 7 44 6,zm 8 0,zN 9 8,zF 10 61 3 10 9,zq 11 (.lda 10 10 0),zw (.sta 44 2 7 [0]),zm 3 11]
@[go_sem] def i7:Fc:=⟨1,.seq Nm (.seq Jd (.ret)),[.cell 2 44,.t 3]⟩
def Mf:C:=zR [0] [zm 2 (.k .nilp),zm 3 (zi 0)]
def Kg:C:=zR [0,4,5] [zm 9 0,zq 10 (.len false 9),zC 11 (zf mQ) [10],zm 8 11,zE 12 8 0,zE 13 8 1,zm 4 12,zm 5 13]
def JY:C:=zR [0,4,5,15] [zm 14 5,zB 15 .neq 14 (zi 0)]
def JM:C:=zR [2,3] [zm 16 5,zm 2 (.k .nilp),zm 3 16]
def Ic:C:=zR [4,17,18,19] [zm 17 0,zq 18 (.len false 17),zm 19 (zi 0)]
def Qo:C:=zR [4,17,18,19,20] [zB 20 .lss 19 18]
def Nr:C:=zR [4,6,7,17,18,19] [zm 21 19,zq 22 (.sad 24 17 19),zL 23 24 22,zq 7 (.alloc false (.agg 24 (List.replicate 8 (.int .u64 0)))),zm 6 21,zS 24 7 23]
def KJ:C:=zD [4,17,18,19] [zm 24 4,zN 25 24,zF 26 59 0 1 25,zL 27 1 26,zm 28 6,zm 29 4,zN 30 29,zF 31 59 0 1 30,zL 32 1 31,zm 33 6,zL 34 24 7,zL 35 24 7,zq 36 (.sad 55 27 28),zF 37 55 0 24 36,zw (.sta 24 37 34 [7]),zq 38 (.sad 55 32 33),zF 39 55 1 24 38,zS 24 39 35]
def LT:C:=zR [4,17,18,19] [zB 40 .add 19 (zi 1),zm 19 40]
def Lj:C:=zR [2,3] [zm 41 4,zm 2 41,zm 3 (zi 0)]
def lR:C:=.seq Qo (.seq (.cond (.t 20) (.skip) (.exit 0)) (.seq (.block 1 (.seq Nr KJ)) LT))
@[go_sem] def qr:Fc:=⟨1,.seq Mf (.seq Kg (.seq (.seq JY (.cond (.t 15) (.seq JM (.ret)) (.skip))) (.seq (.seq Ic (.block 0 (.loop [4,17,18,19] lR))) (.seq Lj (.ret))))),[.t 2,.t 3]⟩
def JG:C:=zR [0,1] [zm 4 (.k .nils)]
def PY:C:=zR [1,5] [zm 9 0,zq 10 (.mksl true 58 24 (.agg 24 (List.replicate 8 (.int .u64 0))) 9 9),zm 5 10]
def NS:C:=zR [5,6] [zm 11 1,zC 12 (zf bK) [11],zq 6 (.alloc false (.agg 48 (List.replicate 49 (.agg 42 [(.int .i64 0),(.int .i64 0),(.int .i64 0)])))),zS 48 6 12]
def MF:C:=zR [5,6,7] [zq 13 (.bld (.agg 60 (List.replicate 7 (.int .i64 0))) []),zq 7 (.alloc false (.agg 60 (List.replicate 7 (.int .i64 0)))),zS 60 7 13]
def Qg:C:=zR [5,6,7,8] [zm 8 (zi 0)]
def MR:C:=zR [5,6,7,8,15] [zm 14 8,zB 15 .lss 14 (zi 7)]
def Qf:C:=zR [5,6,7,8] [zm 19 5,zm 20 8,zB 21 .add (zi 10) 20,zL 22 48 6,zm 23 8,zC 24 (zf dW) [22,23],zm 18 24,zE 25 18 0,zE 26 18 1,zq 27 (.sad 24 19 21),zS 24 27 25]
def Kv:C:=zR [5,6,7,8] [zm 28 8,zm 29 8,zB 30 .add (zi 10) 29,zq 31 (.iad 60 7 10 7 28),zS 10 31 30]
def M4:C:=zR [5,6,7,8] [zm 16 8,zB 17 .add 16 (zi 1),zm 8 17]
def PS:C:=zR [5] [zm 33 5,zL 34 60 7,zC 35 (zf dV) [34],zm 32 35,zE 36 32 0,zE 37 32 1,zq 38 (.sad 24 33 (zi 17)),zS 24 38 36]
def C9:C:=zR [4] [zm 39 5,zm 4 39]
def dj:C:=.seq (.seq MR (.cond (.t 15) (.skip) (.exit 0))) (.seq (.block 1 (.seq Qf Kv)) M4)
@[go_sem] def fj:Fc:=⟨2,.seq JG (.seq PY (.seq NS (.seq MF (.seq (.seq Qg (.block 0 (.loop [5,6,7,8] dj))) (.seq PS (.seq C9 (.ret))))))),[.t 4]⟩
def LE:C:=zR [0,1,6,7] [zq 6 (.box false 2),zq 7 (.box false 3),zm 8 (.k .nilp),zm 9 (zi 0)]
def KH:C:=zR [0,6,7,10,11] [zm 18 1,zm 19 0,zC 20 (zf bB) [19],zC 21 (zf gT) [18,20],zm 17 21,zE 22 17 0,zE 23 17 1,zm 10 22,zm 11 23]
def JT:C:=zR [0,6,7,10,11,25] [zm 24 11,zB 25 .neq 24 (zi 0)]
def IY:C:=zR [8,9] [zm 26 11,zm 8 (.k .nilp),zm 9 26]
def Qp:C:=zR [6,7,10,12] [zm 27 0,zm 28 10,zL 29 48 6,zL 30 48 6,zL 31 50 7,zq 32 (.bld (.agg 43 [.nilp,.nilp,(.agg 48 (List.replicate 49 (.agg 42 [(.int .i64 0),(.int .i64 0),(.int .i64 0)]))),(.agg 48 (List.replicate 49 (.agg 42 [(.int .i64 0),(.int .i64 0),(.int .i64 0)]))),(.agg 50 (List.replicate 8 (.int .i64 0))),(.agg 48 (List.replicate 49 (.agg 42 [(.int .i64 0),(.int .i64 0),(.int .i64 0)]))),(.bool false),(.agg 82 (List.replicate 1024 (.bool false)))]) [(0,27),(1,28),(2,29),(3,30),(4,31)]),zq 33 (.box true 32),zm 12 33]
def QR:C:=zR [7,10,12,34,35] [zL 34 48 6,zm 35 (zi 0)]
def Jl:C:=zR [7,10,12,34,35,36] [zB 36 .lss 35 (zi 49)]
def QM:C:=zR [7,10,12,14,34,35] [zq 37 (.idx 48 49 34 35),zq 14 (.alloc false (.agg 42 [(.int .i64 0),(.int .i64 0),(.int .i64 0)])),zS 42 14 37]
def Jo:C:=zR [7,10,12,34,35,47] [zF 38 42 0 10 14,zL 39 10 38,zB 40 .neq 39 (zi 0),zm 41 40,zg 42 41 true (.mv 10),zg 43 41 true (.fad 42 2 10 14),zg 44 41 true (.ld 10 43),zg 45 41 true (.call (zf bF) [42,44]),zg 46 41 true (.bin .neq 45 (zi 0)),zP 47 41 46 (.k (.bool false))]
def JD:C:=zR [8,9] [zm 8 (.k .nilp),zm 9 (zi 21)]
def Ci:C:=zR [7,10,12,34,35] [zB 48 .add 35 (zi 1),zm 35 48]
def Da:C:=zR [10,12,49,50] [zL 49 50 7,zm 50 (zi 0)]
def DC:C:=zR [10,12,49,50,51] [zB 51 .lss 50 (zi 8)]
def Cd:C:=zR [10,12,16,49,50] [zq 52 (.idx 50 8 49 50),zm 16 52]
def Dm:C:=zR [10,12,49,50,56] [zm 53 10,zm 54 16,zC 55 (zf bF) [53,54],zB 56 .neq 55 (zi 0)]
def BW:C:=zR [8,9] [zm 8 (.k .nilp),zm 9 (zi 21)]
def Eh:C:=zR [10,12,49,50] [zB 57 .add 50 (zi 1),zm 50 57]
def Fu:C:=zR [12] [zm 58 12,zC 59 (zf bi) [58]]
def Dc:C:=zR [8,9] [zm 60 12,zm 8 60,zm 9 (zi 0)]
def eO:C:=.seq Jl (.seq (.cond (.t 36) (.skip) (.exit 0)) (.seq (.block 1 (.seq QM (.seq Jo (.cond (.t 47) (.seq JD (.ret)) (.skip))))) Ci))
def gR:C:=.seq DC (.seq (.cond (.t 51) (.skip) (.exit 2)) (.seq (.block 3 (.seq Cd (.seq Dm (.cond (.t 56) (.seq BW (.ret)) (.skip))))) Eh))
@[go_sem] def lq:Fc:=⟨4,.seq LE (.seq KH (.seq (.seq JT (.cond (.t 25) (.seq IY (.ret)) (.skip))) (.seq Qp (.seq (.seq QR (.block 0 (.loop [7,10,12,34,35] eO))) (.seq (.seq Da (.block 2 (.loop [10,12,49,50] gR))) (.seq Fu (.seq Dc (.ret)))))))),[.t 8,.t 9]⟩
def Jc:C:=zR [0,2] [zq 2 (.alloc false (.agg 48 (List.replicate 49 (.agg 42 [(.int .i64 0),(.int .i64 0),(.int .i64 0)]))))]
def OP:C:=zR [0,2,3] [zq 5 (.bld (.agg 48 (List.replicate 49 (.agg 42 [(.int .i64 0),(.int .i64 0),(.int .i64 0)]))) []),zq 3 (.alloc false (.agg 48 (List.replicate 49 (.agg 42 [(.int .i64 0),(.int .i64 0),(.int .i64 0)])))),zS 48 3 5]
def O8:C:=zR [0,2,3,4] [zm 4 (zi 0)]
def MN:C:=zR [0,2,3,4,12] [zm 6 4,zm 7 0,zB 8 .lss 6 7,zm 9 8,zg 10 9 true (.mv 4),zg 11 9 true (.bin .lss 10 (zi 49)),zP 12 9 11 (.k (.bool false))]
def Lq:C:=zR [0,2,3,4] [zm 15 4,zm 16 4,zB 17 .rem 16 (zi 4),zB 18 .add (zi 1) 17,zm 19 4,zm 20 4,zB 21 .add (zi 20) 20,zq 22 (.bld (.agg 42 [(.int .i64 0),(.int .i64 0),(.int .i64 0)]) [(0,18),(1,19),(2,21)]),zq 23 (.iad 48 49 42 3 15),zS 42 23 22]
def Lk:C:=zR [0,2,3,4] [zm 13 4,zB 14 .add 13 (zi 1),zm 4 14]
def Nj:C:=zR [2] [zL 24 48 3,zS 48 2 24]
def c8:C:=.seq (.seq MN (.cond (.t 12) (.skip) (.exit 0))) (.seq (.block 1 Lq) Lk)
@[go_sem] def fw:Fc:=⟨1,.seq Jc (.seq OP (.seq (.seq O8 (.block 0 (.loop [0,2,3,4] c8))) (.seq Nj (.ret)))),[.cell 2 48]⟩
def Vs:C:=zR [0] [zq 0 (.alloc false (.agg 50 (List.replicate 8 (.int .i64 0))))]
def VB:C:=zR [0,1] [zq 3 (.bld (.agg 50 (List.replicate 8 (.int .i64 0))) []),zq 1 (.alloc false (.agg 50 (List.replicate 8 (.int .i64 0)))),zS 50 1 3]
def V0:C:=zR [0,1,2] [zm 2 (zi 0)]
def Vx:C:=zR [0,1,2,5] [zm 4 2,zB 5 .lss 4 (zi 8)]
def Vh:C:=zR [0,1,2] [zm 8 2,zm 9 2,zB 10 .add (zi 10) 9,zq 11 (.iad 50 8 10 1 8),zS 10 11 10]
def VN:C:=zR [0,1,2] [zm 6 2,zB 7 .add 6 (zi 1),zm 2 7]
def Vq:C:=zR [0] [zL 12 50 1,zS 50 0 12]
def nG:C:=.seq (.seq Vx (.cond (.t 5) (.skip) (.exit 0))) (.seq (.block 1 Vh) VN)
@[go_sem] def jN:Fc:=⟨0,.seq Vs (.seq VB (.seq (.seq V0 (.block 0 (.loop [0,1,2] nG))) (.seq Vq (.ret)))),[.cell 0 50]⟩
def Mm:C:=zR [0,1,3,6] [zq 6 (.box false 2),zm 8 (.k .nilp)]
def Ou:C:=zR [8] [zm 9 0,zm 10 1,zL 11 44 6,zm 12 3,zq 13 (.bld (.agg 61 [.nilp,.nilp,(.agg 44 [(.int .i64 0),(.int .i64 0),(.int .i64 0),(.int .i64 0)]),(.int .i64 0),.nils,(.int .i64 0),(.agg 48 (List.replicate 49 (.agg 42 [(.int .i64 0),(.int .i64 0),(.int .i64 0)]))),(.agg 50 (List.replicate 8 (.int .i64 0)))]) [(0,9),(1,10),(2,11),(3,12)]),zq 14 (.box true 13),zm 8 14]
@[go_sem] def m8:Fc:=⟨4,.seq Mm (.seq Ou (.ret)),[.t 8]⟩
def Qv:C:=zR [0] [zq 0 (.alloc false (.agg 44 [(.int .i64 0),(.int .i64 0),(.int .i64 0),(.int .i64 0)]))]
def LH:C:=zR [0] [zq 1 (.bld (.agg 44 [(.int .i64 0),(.int .i64 0),(.int .i64 0),(.int .i64 0)]) [(0,(zi 1)),(1,(zi 17)),(2,(zi 0)),(3,(zi 1))]),zS 44 0 1]
@[go_sem] def fB:Fc:=⟨0,.seq Qv (.seq LH (.ret)),[.cell 0 44]⟩
def Jb:C:=zR [0,1,2,3] [zm 8 (zi 0)]
def P3:C:=zR [0,1,2,3,9] [zm 12 0,zm 13 1,zC 14 (zf bj) [12,13],zm 9 14]
def Je:C:=zR [0,1,2,3,9,15] [zm 16 9,zB 17 .eql 16 (zi 1),zm 15 17]
def PV:C:=zR [0,1,2,3,9,15] [zm 18 2,zB 19 .lss 18 (zi 0),zm 15 19]
def OD:C:=zR [0,1,2,3,9,15] [zm 20 2,zB 21 .geq 20 (zi 8),zm 15 21]
def JW:C:=zR [8] [zm 8 (zi 1)]
def Rd:C:=zR [0,1,2,3,9,22] [zm 23 9,zB 24 .neq 23 (zi 0),zm 22 24]
def Jn:C:=zR [8] [zm 25 9,zm 8 25]
def Rf:C:=zR [0,1,2,3,26] [zm 27 0,zm 28 1,zC 29 (zf bP) [27,28],zm 26 29]
def KC:C:=zD [8] [zm 30 0,zN 31 30,zF 32 43 0 1 31,zL 33 1 32,zm 34 0,zm 35 1,zN 36 34,zF 37 43 2 48 36,zq 38 (.iad 48 49 42 37 35),zF 39 42 2 10 38,zL 40 10 39,zm 41 2,zm 42 3,zC 43 (zf aV) [33,40,41,42],zm 8 43]
def Ez:C:=zR [0,1,2,3,44] [zm 45 0,zN 46 45,zF 47 43 1 1 46,zL 48 1 47,zC 49 (zf dh) [48],zB 50 .eql 49 (zi 0),zm 44 50]
def DE:C:=zR [8] [zm 8 (zi 10)]
def E9:C:=zD [0,1,2,3,9,10] [zm 52 0,zN 53 52,zF 54 43 0 1 53,zL 55 1 54,zm 56 0,zm 57 1,zN 58 56,zF 59 43 2 48 58,zq 60 (.iad 48 49 42 59 57),zF 61 42 2 10 60,zL 62 10 61,zq 63 (.pcall (zf dn) [55,62]),zm 51 63,zE 64 51 0,zE 65 51 1,zq 10 (.alloc false (.agg 24 (List.replicate 8 (.int .u64 0)))),zS 24 10 64,zm 9 65]
def C5:C:=zR [0,1,2,3,9,10,67] [zm 66 9,zB 67 .neq 66 (zi 0)]
def Ch:C:=zR [8] [zm 68 9,zm 8 68]
def CD:C:=zR [0,1,10] [zm 69 2,zm 70 3,zq 71 (.iad 24 8 18 10 69),zS 18 71 70]
def EV:C:=zR [0,1,9,11] [zm 73 0,zL 74 24 10,zC 75 (zf cD) [73,74],zm 72 75,zE 76 72 0,zE 77 72 1,zm 11 76,zm 9 77]
def Fq:C:=zR [0,1,9,11,79] [zm 78 9,zB 79 .neq 78 (zi 0)]
def DA:C:=zR [8] [zm 80 9,zm 8 80]
def Ey:C:=zR [] [zm 81 0,zm 82 1,zm 83 11,zN 84 81,zF 85 43 2 48 84,zq 86 (.iad 48 49 42 85 82),zF 87 42 2 10 86,zS 10 87 83]
def Ew:C:=zR [8] [zm 8 (zi 0)]
@[go_sem] def it:Fc:=⟨4,.seq Jb (.seq P3 (.seq (.block 0 (.seq (.seq Je (.cond (.t 15) (.skip) (.seq PV (.cond (.t 15) (.skip) OD)))) (.cond (.t 15) (.seq JW (.ret)) (.seq Rd (.cond (.t 22) (.seq Jn (.ret)) (.seq Rf (.cond (.t 26) (.seq KC (.ret)) (.seq Ez (.cond (.t 44) (.seq DE (.ret)) (.skip)))))))))) (.seq E9 (.seq (.seq C5 (.cond (.t 67) (.seq Ch (.ret)) (.skip))) (.seq CD (.seq EV (.seq (.seq Fq (.cond (.t 79) (.seq DA (.ret)) (.skip))) (.seq Ey (.seq Ew (.ret)))))))))),[.t 8]⟩
def Im:C:=zR [0,1] [zm 4 (zi 0),zm 5 (zi 0)]
def PH:C:=zR [0,1,6,7,8] [zm 11 0,zm 12 1,zC 13 (zf cW) [11,12],zm 10 13,zE 14 10 0,zE 15 10 1,zE 16 10 2,zm 6 14,zm 7 15,zm 8 16]
def Po:C:=zR [0,1,6,7,8,18] [zm 17 8,zB 18 .neq 17 (zi 0)]
def Q4:C:=zR [4,5] [zm 19 8,zm 4 (zi 0),zm 5 19]
def Nu:C:=zR [0,1,6,7,8,9] [zm 21 0,zq 22 (.bld (.agg 24 (List.replicate 8 (.int .u64 0))) []),zC 23 (zf cD) [21,22],zm 20 23,zE 24 20 0,zE 25 20 1,zm 9 24,zm 8 25]
def Lz:C:=zR [0,1,6,7,8,9,27] [zm 26 8,zB 27 .neq 26 (zi 0)]
def Nc:C:=zR [4,5] [zm 28 8,zm 4 (zi 0),zm 5 28]
def Lf:C:=zR [6] [zm 29 0,zm 30 6,zm 31 1,zm 32 7,zm 33 9,zq 34 (.bld (.agg 42 [(.int .i64 0),(.int .i64 0),(.int .i64 0)]) [(0,31),(1,32),(2,33)]),zN 35 29,zF 36 43 2 48 35,zq 37 (.iad 48 49 42 36 30),zS 42 37 34]
def Pk:C:=zR [4,5] [zm 38 6,zm 4 38,zm 5 (zi 0)]
@[go_sem] def hU:Fc:=⟨2,.seq Im (.seq PH (.seq (.seq Po (.cond (.t 18) (.seq Q4 (.ret)) (.skip))) (.seq Nu (.seq (.seq Lz (.cond (.t 27) (.seq Nc (.ret)) (.skip))) (.seq Lf (.seq Pk (.ret))))))),[.t 4,.t 5]⟩
def J8:C:=zR [0,1] [zm 4 (zi 0)]
def Jm:C:=zR [0,1,5] [zm 6 0,zm 7 1,zC 8 (zf bj) [6,7],zm 5 8]
def Mi:C:=zR [0,1,5,10] [zm 9 5,zB 10 .neq 9 (zi 0)]
def IC:C:=zR [4] [zm 11 5,zm 4 11]
def N3:C:=zR [0,1,14] [zm 12 0,zm 13 1,zC 14 (zf bP) [12,13]]
def I9:C:=zD [0,1] [zm 15 0,zN 16 15,zF 17 43 1 1 16,zL 18 1 17,zm 19 0,zm 20 1,zN 21 19,zF 22 43 2 48 21,zq 23 (.iad 48 49 42 22 20),zF 24 42 2 10 23,zL 25 10 24,zC 26 (zf cj) [18,25]]
def Rl:C:=zD [] [zm 28 0,zm 29 1,zm 30 0,zm 31 1,zN 32 30,zF 33 43 2 48 32,zq 34 (.iad 48 49 42 33 31),zL 35 42 34,zq 36 (.pcall (zf kQ) [35]),zm 27 36,zE 37 27 0,zE 38 27 1,zN 39 28,zF 40 43 2 48 39,zq 41 (.iad 48 49 42 40 29),zS 42 41 37]
def IT:C:=zR [4] [zm 4 (zi 0)]
@[go_sem] def ik:Fc:=⟨2,.seq J8 (.seq (.seq Jm (.seq Mi (.cond (.t 10) (.seq IC (.ret)) (.skip)))) (.seq (.seq N3 (.cond (.t 14) I9 (.skip))) (.seq Rl (.seq IT (.ret))))),[.t 4]⟩
def Ll:C:=zR [0] [zm 2 (zi 0)]
def Oz:C:=zR [0,3] [zm 3 (zi 0)]
def Kd:C:=zR [3,9,10] [zm 6 0,zN 7 6,zF 8 80 2 78 7,zL 9 78 8,zm 10 (zi 0)]
def N9:C:=zR [3,9,10,11] [zB 11 .lss 10 (zi 16)]
def Q3:C:=zR [3,5,9,10] [zq 12 (.idx 78 16 9 10),zm 5 12]
def P0:C:=zR [3,9,10] [zm 13 3,zm 14 5,zC 15 (zf dq) [14],zB 16 .add 13 15,zm 3 16]
def Ov:C:=zR [3,9,10] [zB 17 .add 10 (zi 1),zm 10 17]
def KD:C:=zR [2] [zm 18 3,zm 2 18]
def dO:C:=.seq N9 (.seq (.cond (.t 11) (.skip) (.exit 0)) (.seq (.block 1 (.seq Q3 P0)) Ov))
@[go_sem] def gN:Fc:=⟨1,.seq Ll (.seq Oz (.seq (.seq Kd (.block 0 (.loop [3,9,10] dO))) (.seq KD (.ret)))),[.t 2]⟩
def NK:C:=zR [0] [zm 2 (zi 0),zm 3 (zi 0)]
def Ob:C:=zR [0,10,11] [zm 7 0,zN 8 7,zF 9 80 2 78 8,zL 10 78 9,zm 11 (zi 0)]
def Mp:C:=zR [0,10,11,12] [zB 12 .lss 11 (zi 16)]
def KY:C:=zR [0,4,5,10,11] [zm 13 11,zq 14 (.idx 78 16 10 11),zm 4 13,zm 5 14]
def QL:C:=zR [0,4,5,10,11,16] [zm 15 5,zB 16 .neq 15 (.k (.int .u64 0))]
def LN:C:=zR [0,6] [zm 17 4,zB 18 .mul (zi 64) 17,zm 19 5,zC 20 (zf cw) [19],zB 21 .add 18 20,zm 6 21]
def Mg:C:=zR [6] [zm 22 0,zN 23 22,zF 24 80 2 78 23,zm 25 6,zC 26 (zf aT) [24,25]]
def IE:C:=zR [2,3] [zm 27 6,zm 2 27,zm 3 (zi 0)]
def Qt:C:=zR [0,10,11] [zB 28 .add 11 (zi 1),zm 11 28]
def J9:C:=zR [2,3] [zm 2 (zi 0),zm 3 (zi 10)]
def cn:C:=.seq Mp (.seq (.cond (.t 12) (.skip) (.exit 0)) (.seq (.block 1 (.seq KY (.seq QL (.cond (.t 16) (.seq LN (.seq Mg (.seq IE (.ret)))) (.skip))))) Qt))
@[go_sem] def gj:Fc:=⟨1,.seq NK (.seq (.seq Ob (.block 0 (.loop [0,10,11] cn))) (.seq J9 (.ret))),[.t 2,.t 3]⟩
def KX:C:=zR [0] [zm 2 (zi 0)]
def OI:C:=zR [0,6] [zm 3 0,zN 4 3,zF 5 43 6 0 4,zL 6 0 5]
def Jw:C:=zR [2] [zm 2 (zi 3)]
def QW:C:=zR [0] [zm 7 0,zm 8 0,zm 9 0,zN 10 9,zF 11 43 2 48 10,zL 12 48 11,zN 13 7,zF 14 43 5 48 13,zS 48 14 12,zN 15 8,zF 16 43 6 0 15,zS 0 16 (.k (.bool true))]
def MW:C:=zR [] [zm 17 0,zC 18 (zf bi) [17]]
def O2:C:=zR [2] [zm 2 (zi 0)]
@[go_sem] def gP:Fc:=⟨1,.seq KX (.seq (.seq OI (.cond (.t 6) (.seq Jw (.ret)) (.skip))) (.seq QW (.seq MW (.seq O2 (.ret))))),[.t 2]⟩
def Ja:C:=zR [0,1] [zm 4 (zi 0)]
def N0:C:=zR [4] [zm 5 0,zN 6 5,zF 7 61 0 1 6,zL 8 1 7,zm 9 1,zC 10 (zf cQ) [8,(zi 0),9],zm 4 10]
@[go_sem] def iV:Fc:=⟨2,.seq Ja (.seq N0 (.ret)),[.t 4]⟩
def Pn:C:=zR [2,3] [zq 2 (.box false 0),zq 3 (.box false 1),zm 4 (.k .nils)]
def P1:C:=zR [2,3,5] [zm 5 (.k .nils)]
def LS:C:=zR [2,3,5,7] [zm 7 (zi 0)]
def NP:C:=zR [2,3,5,7,8] [zB 8 .lss 7 (zi 7)]
def Pz:C:=zR [2,3,5,6,7] [zm 9 7,zm 6 9]
def Pa:C:=zD [2,3,5,6,7,26] [zm 10 6,zB 11 .mul (zi 7) 10,zm 12 6,zB 13 .mul (zi 7) 12,zB 14 .add 13 (zi 7),zq 15 (.slarr 48 49 42 2 (some 11) (some 14) none),zq 16 (.s2a 7 42 15),zq 17 (.ldr 94 7 42 48 16),zm 18 6,zB 19 .mul (zi 7) 18,zm 20 6,zB 21 .mul (zi 7) 20,zB 22 .add 21 (zi 7),zq 23 (.slarr 48 49 42 3 (some 19) (some 22) none),zq 24 (.s2a 7 42 23),zq 25 (.ldr 94 7 42 48 24),zq 26 (.eq true 94 17 25)]
def Rj:C:=zR [2,3,5,7] [zm 27 5,zm 28 6,zq 29 (.bsl false 38 10 (.int .i64 0) 1 [(0,28)]),zq 30 (.app true 38 10 27 29),zm 5 30]
def Ij:C:=zR [2,3,5,7] [zB 31 .add 7 (zi 1),zm 7 31]
def Kr:C:=zR [4] [zm 32 5,zm 4 32]
def eS:C:=.seq NP (.seq (.cond (.t 8) (.skip) (.exit 0)) (.seq (.block 1 (.seq Pz (.seq Pa (.cond (.t 26) Rj (.skip))))) Ij))
@[go_sem] def kg:Fc:=⟨2,.seq Pn (.seq P1 (.seq (.seq LS (.block 0 (.loop [2,3,5,7] eS))) (.seq Kr (.ret)))),[.t 4]⟩
def IK:C:=zR [0,1] [zm 4 (zi 0)]
def Rb:C:=zR [0,1,5] [zm 8 0,zN 9 8,zF 10 61 6 48 9,zL 11 48 10,zm 12 1,zC 13 (zf je) [11,12],zm 7 13,zE 14 7 0,zE 15 7 1,zq 5 (.alloc false (.agg 24 (List.replicate 8 (.int .u64 0)))),zS 24 5 14,zm 6 15]
def JO:C:=zD [4] [zm 16 0,zL 17 24 5,zm 18 0,zm 19 1,zN 20 18,zF 21 61 7 50 20,zq 22 (.iad 50 8 10 21 19),zC 23 (zf dm) [16,17,22],zm 4 23]
@[go_sem] def jt:Fc:=⟨2,.seq IK (.seq Rb (.seq JO (.ret))),[.t 4]⟩
def Iy:C:=zR [0] [zm 4 (zi 0)]
def Lm:C:=zR [0,5] [zm 8 0,zN 9 8,zF 10 61 7 50 9,zq 11 (.slarr 50 8 10 10 none (some (zi 7)) none),zq 12 (.s2a 7 10 11),zq 13 (.ldr 60 7 10 50 12),zC 14 (zf iR) [13],zm 7 14,zE 15 7 0,zE 16 7 1,zq 5 (.alloc false (.agg 24 (List.replicate 8 (.int .u64 0)))),zS 24 5 15,zm 6 16]
def MV:C:=zD [4] [zm 17 0,zL 18 24 5,zm 19 0,zN 20 19,zF 21 61 7 50 20,zq 22 (.iad 50 8 10 21 (zi 7)),zC 23 (zf dm) [17,18,22],zm 4 23]
@[go_sem] def jw:Fc:=⟨2,.seq Iy (.seq Lm (.seq MV (.ret))),[.t 4]⟩
def LQ:C:=zR [0] [zm 4 (zi 0)]
def JS:C:=zR [4] [zm 5 0,zN 6 5,zF 7 61 0 1 6,zL 8 1 7,zC 9 (zf cO) [8,(zi 0)],zm 4 9]
@[go_sem] def jg:Fc:=⟨2,.seq LQ (.seq JS (.ret)),[.t 4]⟩
def PE:C:=zR [0] [zm 4 (zi 0)]
def JB:C:=zD [0,5] [zm 8 0,zN 9 8,zF 10 61 2 44 9,zF 11 44 0 10 10,zL 12 10 11,zB 13 .add 12 (zi 1),zm 14 0,zN 15 14,zF 16 61 7 50 15,zq 17 (.iad 50 8 10 16 (zi 7)),zL 18 10 17,zm 19 0,zN 20 19,zF 21 61 5 10 20,zL 22 10 21,zm 23 0,zN 24 23,zF 25 61 2 44 24,zF 26 44 3 10 25,zL 27 10 26,zq 28 (.bld (.agg 44 [(.int .i64 0),(.int .i64 0),(.int .i64 0),(.int .i64 0)]) [(0,13),(1,18),(2,22),(3,27)]),zq 5 (.alloc false (.agg 44 [(.int .i64 0),(.int .i64 0),(.int .i64 0),(.int .i64 0)])),zS 44 5 28]
def Jx:C:=zR [0,5,6] [zm 29 0,zN 30 29,zF 31 61 3 10 30,zL 32 10 31,zB 33 .sub (zi 1) 32,zm 6 33]
def Qr:C:=zD [0,5,6,7] [zm 34 0,zN 35 34,zF 36 61 0 1 35,zL 37 1 36,zm 38 6,zL 39 44 5,zC 40 (zf jH) [37,(zi 0),38,39],zm 7 40]
def NN:C:=zR [0,5,6,7,42] [zm 41 7,zB 42 .neq 41 (zi 0)]
def Lv:C:=zR [4] [zm 43 7,zm 4 43]
def JH:C:=zD [0,5,6] [zm 44 0,zN 45 44,zF 46 61 1 1 45,zL 47 1 46,zm 48 0,zN 49 48,zF 50 61 7 50 49,zL 51 50 50,zC 52 (zf dH) [47,51]]
def Oc:C:=zR [] [zm 53 0,zm 54 0,zL 55 44 5,zm 56 6,zN 57 53,zF 58 61 2 44 57,zS 44 58 55,zN 59 54,zF 60 61 3 10 59,zS 10 60 56]
def Q0:C:=zR [4] [zm 4 (zi 0)]
@[go_sem] def iH:Fc:=⟨2,.seq PE (.seq JB (.seq Jx (.seq (.seq Qr (.seq NN (.cond (.t 42) (.seq Lv (.ret)) (.skip)))) (.seq JH (.seq Oc (.seq Q0 (.ret))))))),[.t 4]⟩
def Qh:C:=zR [0] [zm 2 (zi 0)]
def Nq:C:=zR [0,7] [zm 3 0,zN 4 3,zF 5 43 6 0 4,zL 6 0 5,zq 7 (.un .not 6)]
def NG:C:=zR [2] [zm 2 (zi 3)]
def Ox:C:=zR [] [zm 8 0,zC 9 (zf bJ) [8]]
def PJ:C:=zR [2] [zm 2 (zi 0)]
@[go_sem] def gu:Fc:=⟨1,.seq Qh (.seq (.seq Nq (.cond (.t 7) (.seq NG (.ret)) (.skip))) (.seq Ox (.seq PJ (.ret)))),[.t 2]⟩
def Ns:C:=zR [0,1] [zm 4 (zi 0)]
def Qm:C:=zR [0,1,5] [zm 6 1,zB 7 .lss 6 (zi 0),zm 5 7]
def K4:C:=zR [0,1,5] [zm 8 1,zB 9 .geq 8 (zi 49),zm 5 9]
def JK:C:=zR [4] [zm 4 (zi 1)]
def IS:C:=zR [10] [zm 11 0,zm 12 1,zN 13 11,zF 14 43 2 48 13,zq 15 (.iad 48 49 42 14 12),zF 16 42 0 10 15,zL 17 10 16,zB 18 .eql 17 (zi 0),zm 10 18]
def Qz:C:=zR [4] [zm 4 (zi 30)]
def II:C:=zR [4] [zm 4 (zi 0)]
@[go_sem] def iL:Fc:=⟨2,.seq Ns (.seq (.block 0 (.seq (.seq Qm (.cond (.t 5) (.skip) K4)) (.cond (.t 5) (.seq JK (.ret)) (.seq IS (.cond (.t 10) (.seq Qz (.ret)) (.skip)))))) (.seq II (.ret))),[.t 4]⟩
def Ka:C:=zR [0,1,4] [zq 4 (.alloc false (.agg 24 (List.replicate 8 (.int .u64 0)))),zm 5 (zi 0)]
def Kn:C:=zR [0,4,6] [zm 7 0,zm 8 1,zC 9 (zf cv) [7,8],zm 6 9]
def OS:C:=zR [0,4,6,10] [zm 11 6,zq 12 (.eq false 1 11 (.k .nilp)),zm 10 12]
def Nk:C:=zR [4,5] [zq 13 (.bld (.agg 24 (List.replicate 8 (.int .u64 0))) []),zS 24 4 13,zm 5 (zi 1)]
def IJ:C:=zR [4,6,14] [zm 15 0,zN 16 15,zF 17 59 1 0 16,zL 18 0 17,zm 14 18]
def P4:C:=zR [4,5] [zq 19 (.bld (.agg 24 (List.replicate 8 (.int .u64 0))) []),zS 24 4 19,zm 5 (zi 4)]
def Lo:C:=zR [4,5] [zm 20 6,zN 21 20,zF 22 55 0 24 21,zL 23 24 22,zS 24 4 23,zm 5 (zi 0)]
@[go_sem] def ja:Fc:=⟨2,.seq Ka (.seq Kn (.seq (.block 0 (.seq OS (.cond (.t 10) (.seq Nk (.ret)) (.seq IJ (.cond (.t 14) (.seq P4 (.ret)) (.skip)))))) (.seq Lo (.ret)))),[.cell 4 24,.t 5]⟩
def LY:C:=zR [0] [zm 2 (.k .nilp),zm 3 (zi 0)]
def MS:C:=zR [0,9] [zm 4 0,zB 5 .lss 4 (zi 64),zm 6 5,zg 7 6 false (.mv 0),zg 8 6 false (.bin .gtr 7 (zi 1024)),zP 9 6 (.k (.bool true)) 8]
def Ln:C:=zR [2,3] [zm 2 (.k .nilp),zm 3 (zi 1)]
def IP:C:=zR [2,3] [zm 10 0,zq 11 (.mksl true 57 55 (.agg 55 [(.agg 24 (List.replicate 8 (.int .u64 0))),(.agg 24 (List.replicate 8 (.int .u64 0))),.nils,(.agg 50 (List.replicate 8 (.int .i64 0)))]) 10 10),zq 12 (.bld (.agg 59 [.nils,(.bool false),(.bool false),(.int .i64 0),(.int .i64 0)]) [(0,11)]),zq 13 (.box true 12),zm 2 13,zm 3 (zi 0)]
@[go_sem] def oS:Fc:=⟨1,.seq LY (.seq (.seq MS (.cond (.t 9) (.seq Ln (.ret)) (.skip))) (.seq IP (.ret))),[.t 2,.t 3]⟩
def Q8:C:=zR [1,2,4] [zq 2 (.box false 0),zq 4 (.alloc false (.agg 24 (List.replicate 8 (.int .u64 0)))),zm 5 (zi 0)]
def Qa:C:=zR [1,2,4,6] [zq 10 (.bld (.agg 24 (List.replicate 8 (.int .u64 0))) []),zq 6 (.alloc false (.agg 24 (List.replicate 8 (.int .u64 0)))),zS 24 6 10]
def LK:C:=zR [1,2,4,6,16] [zm 11 1,zB 12 .lss 11 (zi 0),zm 13 12,zg 14 13 false (.mv 1),zg 15 13 false (.bin .geq 14 (zi 7)),zP 16 13 (.k (.bool true)) 15]
def O5:C:=zR [4,5] [zL 17 24 6,zS 24 4 17,zm 5 (zi 1)]
def Kb:C:=zR [1,2,4,6,7] [zm 7 (zi 0)]
def QP:C:=zR [1,2,4,6,7,19] [zm 18 7,zB 19 .lss 18 (zi 7)]
def Pf:C:=zR [1,2,4,6,7,8,9] [zm 23 1,zB 24 .mul (zi 7) 23,zm 25 7,zB 26 .add 24 25,zq 27 (.iad 48 49 42 2 26),zL 28 42 27,zC 29 (zf d6) [28],zm 22 29,zE 30 22 0,zE 31 22 1,zm 8 30,zm 9 31]
def No:C:=zR [1,2,4,6,7,8,33] [zm 32 9,zB 33 .neq 32 (zi 0)]
def Ni:C:=zR [4,5] [zq 34 (.bld (.agg 24 (List.replicate 8 (.int .u64 0))) []),zS 24 4 34,zm 5 (zi 1)]
def Qn:C:=zR [1,2,4,6,7] [zm 35 7,zm 36 8,zq 37 (.iad 24 8 18 6 35),zS 18 37 36]
def El:C:=zR [1,2,4,6,7] [zm 20 7,zB 21 .add 20 (zi 1),zm 7 21]
def Fk:C:=zR [4,5] [zL 38 24 6,zC 39 (zf bX) [38],zS 24 4 39,zm 5 (zi 0)]
def cl:C:=.seq (.seq QP (.cond (.t 19) (.skip) (.exit 0))) (.seq (.block 1 (.seq Pf (.seq (.seq No (.cond (.t 33) (.seq Ni (.ret)) (.skip))) Qn))) El)
@[go_sem] def gn:Fc:=⟨2,.seq Q8 (.seq Qa (.seq (.seq LK (.cond (.t 16) (.seq O5 (.ret)) (.skip))) (.seq (.seq Kb (.block 0 (.loop [1,2,4,6,7] cl))) (.seq Fk (.ret))))),[.cell 4 24,.t 5]⟩
def QQ:C:=zR [1,2] [zq 1 (.box false 0),zq 2 (.alloc false (.agg 24 (List.replicate 8 (.int .u64 0)))),zm 3 (zi 0)]
def Ky:C:=zR [1,2,4] [zq 6 (.bld (.agg 24 (List.replicate 8 (.int .u64 0))) []),zq 4 (.alloc false (.agg 24 (List.replicate 8 (.int .u64 0)))),zS 24 4 6]
def PK:C:=zR [1,2,4,5] [zm 5 (zi 0)]
def Oa:C:=zR [1,2,4,5,8] [zm 7 5,zB 8 .lss 7 (zi 7)]
def LU:C:=zR [1,2,4,5,20] [zm 11 5,zq 12 (.iad 60 7 10 1 11),zL 13 10 12,zB 14 .lss 13 (zi 0),zm 15 14,zg 16 15 false (.mv 5),zg 17 15 false (.iad 60 7 10 1 16),zg 18 15 false (.ld 10 17),zg 19 15 false (.bin .geq 18 (zi 1024)),zP 20 15 (.k (.bool true)) 19]
def JJ:C:=zR [2,3] [zq 21 (.bld (.agg 24 (List.replicate 8 (.int .u64 0))) []),zS 24 2 21,zm 3 (zi 1)]
def K9:C:=zR [1,2,4,5] [zm 22 5,zm 23 5,zq 24 (.iad 60 7 10 1 23),zL 25 10 24,zq 26 (.conv .u64 25),zB 27 .or 26 (.k (.int .u64 4294967296)),zq 28 (.iad 24 8 18 4 22),zS 18 28 27]
def Ng:C:=zR [1,2,4,5] [zm 9 5,zB 10 .add 9 (zi 1),zm 5 10]
def Pb:C:=zR [2,3] [zL 29 24 4,zC 30 (zf bX) [29],zS 24 2 30,zm 3 (zi 0)]
def bE:C:=.seq (.seq Oa (.cond (.t 8) (.skip) (.exit 0))) (.seq (.block 1 (.seq (.seq LU (.cond (.t 20) (.seq JJ (.ret)) (.skip))) K9)) Ng)
@[go_sem] def ga:Fc:=⟨1,.seq QQ (.seq Ky (.seq (.seq PK (.block 0 (.loop [1,2,4,5] bE))) (.seq Pb (.ret)))),[.cell 2 24,.t 3]⟩
def Nn:C:=zR [0,1] [zm 4 (.k .nilp),zm 5 (zi 0)]
def Ir:C:=zR [0,1,18] [zm 8 0,zB 9 .lss 8 (zi 0),zm 10 9,zg 11 10 false (.mv 0),zg 12 10 false (.mv 1),zg 13 10 false (.bin .gtr 11 12),zP 14 10 (.k (.bool true)) 13,zm 15 14,zg 16 15 false (.mv 1),zg 17 15 false (.bin .gtr 16 (zi 1024)),zP 18 15 (.k (.bool true)) 17]
def Mr:C:=zR [4,5] [zm 4 (.k .nilp),zm 5 (zi 1)]
def NQ:C:=zR [0,1,6] [zm 19 0,zm 20 1,zq 21 (.bld (.agg 80 [(.int .i64 0),(.int .i64 0),(.agg 78 (List.replicate 16 (.int .u64 0))),(.agg 78 (List.replicate 16 (.int .u64 0)))]) [(0,19),(1,20)]),zq 22 (.box true 21),zm 6 22]
def Q2:C:=zR [0,6,25,26] [zm 23 1,zm 24 0,zB 25 .sub 23 24,zm 26 (zi 0)]
def P6:C:=zR [0,6,25,26,27] [zB 27 .lss 26 25]
def Jj:C:=zR [0,6,7,25,26] [zm 28 26,zm 7 28]
def NY:C:=zR [0,6,25,26] [zm 29 6,zN 30 29,zF 31 80 2 78 30,zm 32 0,zm 33 7,zB 34 .add 32 33,zC 35 (zf aT) [31,34]]
def JP:C:=zR [0,6,25,26] [zB 36 .add 26 (zi 1),zm 26 36]
def Pr:C:=zR [4,5] [zm 37 6,zm 4 37,zm 5 (zi 0)]
def jl:C:=.seq P6 (.seq (.cond (.t 27) (.skip) (.exit 0)) (.seq (.block 1 (.seq Jj NY)) JP))
@[go_sem] def lh:Fc:=⟨2,.seq Nn (.seq (.seq Ir (.cond (.t 18) (.seq Mr (.ret)) (.skip))) (.seq NQ (.seq (.seq Q2 (.block 0 (.loop [0,6,25,26] jl))) (.seq Pr (.ret))))),[.t 4,.t 5]⟩
def Ml:C:=zR [0] [zm 2 (zi 0)]
def Oj:C:=zR [2] [zm 3 0,zN 4 3,zF 5 59 0 1 4,zL 6 1 5,zq 7 (.len false 6),zm 2 7]
@[go_sem] def iF:Fc:=⟨1,.seq Ml (.seq Oj (.ret)),[.t 2]⟩
def Ol:C:=zR [0,1] [zm 4 (zi 0)]
def Mz:C:=zR [0,1,5] [zm 6 0,zm 7 1,zC 8 (zf bD) [6,7,(zi 0)],zm 5 8]
def Ib:C:=zR [0,1,5,10] [zm 9 5,zB 10 .eql 9 (zi 0)]
def LO:C:=zR [5] [zm 11 0,zN 12 11,zF 13 80 2 78 12,zm 14 1,zC 15 (zf aT) [13,14]]
def Ip:C:=zR [4] [zm 16 5,zm 4 16]
@[go_sem] def gG:Fc:=⟨2,.seq Ol (.seq Mz (.seq (.seq Ib (.cond (.t 10) LO (.skip))) (.seq Ip (.ret)))),[.t 4]⟩
def PM:C:=zR [0] [zm 2 0,zq 3 (.bld (.agg 82 (List.replicate 1024 (.bool false))) []),zN 4 2,zF 5 43 7 82 4,zS 82 5 3]
def Px:C:=zD [0] [zm 6 0,zN 7 6,zF 8 43 7 82 7,zm 9 0,zN 10 9,zF 11 43 3 48 10,zL 12 48 11,zC 13 (zf bd) [8,12]]
def KO:C:=zR [0,17] [zm 14 0,zN 15 14,zF 16 43 6 0 15,zL 17 0 16]
def Ow:C:=zD [] [zm 18 0,zN 19 18,zF 20 43 7 82 19,zm 21 0,zN 22 21,zF 23 43 5 48 22,zL 24 48 23,zC 25 (zf bd) [20,24]]
@[go_sem] def fY:Fc:=⟨1,.seq PM (.seq Px (.seq KO (.cond (.t 17) Ow (.skip)))),[]⟩
def Nf:C:=zR [0,1] [zm 4 (.k (.bool false))]
def MK:C:=zD [4] [zm 5 0,zm 6 0,zm 7 1,zN 8 6,zF 9 43 2 48 8,zq 10 (.iad 48 49 42 9 7),zF 11 42 2 10 10,zL 12 10 11,zN 13 5,zF 14 43 7 82 13,zq 15 (.iad 82 1024 0 14 12),zL 16 0 15,zq 17 (.un .not 16),zm 4 17]
@[go_sem] def ip:Fc:=⟨2,.seq Nf (.seq MK (.ret)),[.t 4]⟩
def I0:C:=zR [0,1,2,3] [zm 8 (zi 0)]
def KV:C:=zR [0,2,3,9] [zm 11 0,zm 12 1,zC 13 (zf cv) [11,12],zm 9 13]
def NA:C:=zR [0,2,3,9,23] [zm 14 9,zq 15 (.eq false 1 14 (.k .nilp)),zm 16 15,zg 17 16 false (.mv 2),zg 18 16 false (.bin .lss 17 (zi 0)),zP 19 16 (.k (.bool true)) 18,zm 20 19,zg 21 20 false (.mv 2),zg 22 20 false (.bin .geq 21 (zi 8)),zP 23 20 (.k (.bool true)) 22]
def Oo:C:=zR [8] [zm 8 (zi 1)]
def MB:C:=zR [2,3,9,10] [zm 24 0,zC 25 (zf a8) [24],zm 10 25]
def Mo:C:=zR [2,3,9,10,27] [zm 26 10,zB 27 .neq 26 (zi 0)]
def Lx:C:=zR [8] [zm 28 10,zm 8 28]
def Kz:C:=zR [2,3,9] [zm 29 9,zm 30 2,zm 31 3,zN 32 29,zF 33 55 0 24 32,zq 34 (.iad 24 8 18 33 30),zS 18 34 31]
def MU:C:=zR [] [zm 35 9,zm 36 9,zN 37 36,zF 38 55 2 1 37,zL 39 1 38,zm 40 2,zm 41 3,zq 42 (.bld (.agg 84 [(.int .i64 0),(.int .u64 0)]) [(0,40),(1,41)]),zq 43 (.bsl false 86 84 (.agg 84 [(.int .i64 0),(.int .u64 0)]) 1 [(0,42)]),zq 44 (.app true 86 84 39 43),zN 45 35,zF 46 55 2 1 45,zS 1 46 44]
def NT:C:=zR [8] [zm 8 (zi 0)]
@[go_sem] def iJ:Fc:=⟨4,.seq I0 (.seq KV (.seq (.seq NA (.cond (.t 23) (.seq Oo (.ret)) (.skip))) (.seq (.seq MB (.seq Mo (.cond (.t 27) (.seq Lx (.ret)) (.skip)))) (.seq Kz (.seq MU (.seq NT (.ret))))))),[.t 8]⟩
def QU:C:=zR [0,3] [zq 3 (.box false 1),zm 4 (zi 0),zm 5 (zi 0)]
def PI:C:=zR [0,3,6,7] [zm 12 0,zN 13 12,zF 14 43 1 1 13,zL 15 1 14,zC 16 (zf bg) [15],zm 11 16,zE 17 11 0,zE 18 11 1,zm 6 17,zm 7 18]
def Ot:C:=zR [0,3,6,7,20] [zm 19 7,zB 20 .neq 19 (zi 0)]
def MQ:C:=zR [4,5] [zm 21 7,zm 4 (zi 0),zm 5 21]
def QT:C:=zR [0,6,22,23] [zL 22 24 3,zm 23 (zi 0)]
def MY:C:=zR [0,6,22,23,24] [zB 24 .lss 23 (zi 8)]
def J5:C:=zR [0,6,8,9,22,23] [zm 25 23,zq 26 (.idx 24 8 22 23),zm 8 25,zm 9 26]
def KZ:C:=zR [0,6,10,22,23] [zm 27 0,zN 28 27,zF 29 43 0 1 28,zL 30 1 29,zm 31 6,zm 32 8,zm 33 9,zC 34 (zf aV) [30,31,32,33],zm 10 34]
def IW:C:=zR [0,6,10,22,23,36] [zm 35 10,zB 36 .neq 35 (zi 0)]
def J2:C:=zR [4,5] [zm 37 10,zm 4 (zi 0),zm 5 37]
def Dg:C:=zR [0,6,22,23] [zB 38 .add 23 (zi 1),zm 23 38]
def ED:C:=zR [4,5] [zm 39 6,zm 4 39,zm 5 (zi 0)]
def cS:C:=.seq MY (.seq (.cond (.t 24) (.skip) (.exit 0)) (.seq (.block 1 (.seq J5 (.seq KZ (.seq IW (.cond (.t 36) (.seq J2 (.ret)) (.skip)))))) Dg))
@[go_sem] def il:Fc:=⟨2,.seq QU (.seq PI (.seq (.seq Ot (.cond (.t 20) (.seq MQ (.ret)) (.skip))) (.seq (.seq QT (.block 0 (.loop [0,6,22,23] cS))) (.seq ED (.ret))))),[.t 4,.t 5]⟩
def Lt:C:=zR [0,1] [zm 4 (zi 0),zm 5 (zi 0),zm 6 (zi 0)]
def OB:C:=zR [0,9] [zm 9 1]
def Rh:C:=zR [0,9,10] [zB 11 .eql 9 (zi 1),zm 10 11]
def J4:C:=zR [0,9,10] [zB 12 .eql 9 (zi 2),zm 10 12]
def PF:C:=zR [0,10] [zB 13 .eql 9 (zi 4),zm 10 13]
def KL:C:=zR [4,5,6] [zm 4 (zi 0),zm 5 (zi 0),zm 6 (zi 1)]
def MM:C:=zR [17,18] [zm 14 0,zN 15 14,zF 16 43 2 48 15,zL 17 48 16,zm 18 (zi 0)]
def MX:C:=zR [17,18,19] [zB 19 .lss 18 (zi 49)]
def J3:C:=zR [7,8,17,18] [zm 20 18,zq 21 (.idx 48 49 17 18),zq 8 (.alloc false (.agg 42 [(.int .i64 0),(.int .i64 0),(.int .i64 0)])),zm 7 20,zS 42 8 21]
def MG:C:=zR [7,8,17,18,23] [zL 22 42 8,zC 23 (zf km) [22]]
def Cu:C:=zD [4,5,6] [zm 24 7,zF 25 42 1 10 8,zL 26 10 25,zm 4 24,zm 5 26,zm 6 (zi 0)]
def CA:C:=zR [17,18] [zB 27 .add 18 (zi 1),zm 18 27]
def CT:C:=zR [4,5,6] [zm 4 (zi 0),zm 5 (zi 0),zm 6 (zi 34)]
def bm:C:=.seq MX (.seq (.cond (.t 19) (.skip) (.exit 1)) (.seq (.block 2 (.seq J3 (.seq MG (.cond (.t 23) (.seq Cu (.ret)) (.skip))))) CA))
@[go_sem] def gW:Fc:=⟨2,.seq Lt (.seq (.seq OB (.block 0 (.seq (.seq Rh (.cond (.t 10) (.skip) (.seq J4 (.cond (.t 10) (.skip) PF)))) (.cond (.t 10) (.skip) (.seq KL (.ret)))))) (.seq (.seq MM (.block 1 (.loop [17,18] bm))) (.seq CT (.ret)))),[.t 4,.t 5,.t 6]⟩
def Qs:C:=zR [0,1] [zm 4 (zi 0)]
def OK:C:=zR [0,1,5] [zm 6 0,zm 7 1,zC 8 (zf bD) [6,7,(zi 1)],zm 5 8]
def Pu:C:=zR [0,1,5,10] [zm 9 5,zB 10 .eql 9 (zi 0)]
def JC:C:=zR [5] [zm 11 0,zN 12 11,zF 13 80 2 78 12,zm 14 1,zC 15 (zf aT) [13,14]]
def IH:C:=zR [4] [zm 16 5,zm 4 16]
@[go_sem] def gH:Fc:=⟨2,.seq Qs (.seq OK (.seq (.seq Pu (.cond (.t 10) JC (.skip))) (.seq IH (.ret)))),[.t 4]⟩
def M9:C:=zR [1,2] [zq 1 (.box false 0),zq 2 (.alloc false (.agg 42 [(.int .i64 0),(.int .i64 0),(.int .i64 0)])),zm 3 (zi 0)]
def Qw:C:=zR [1,2,6] [zF 4 42 0 10 1,zL 5 10 4,zB 6 .eql 5 (zi 0)]
def PC:C:=zR [2,3] [zq 7 (.bld (.agg 42 [(.int .i64 0),(.int .i64 0),(.int .i64 0)]) []),zS 42 2 7,zm 3 (zi 30)]
def K5:C:=zR [2,3] [zF 8 42 1 10 1,zL 9 10 8,zF 10 42 1 10 1,zL 11 10 10,zB 12 .sub (zi 16777215) 11,zq 13 (.mnx false (zi 1) 12),zB 14 .add 9 13,zq 15 (.bld (.agg 42 [(.int .i64 0),(.int .i64 0),(.int .i64 0)]) [(1,14)]),zS 42 2 15,zm 3 (zi 0)]
@[go_sem] def mt:Fc:=⟨1,.seq M9 (.seq (.seq Qw (.cond (.t 6) (.seq PC (.ret)) (.skip))) (.seq K5 (.ret))),[.cell 2 42,.t 3]⟩
def ON:C:=zR [0] [zm 2 (zi 0)]
def Mw:C:=zR [0] [zm 3 0,zB 4 .shr 3 (.k (.int .u64 1)),zB 5 .and 4 (.k (.int .u64 6148914691236517205)),zm 6 0,zB 7 .and 6 (.k (.int .u64 6148914691236517205)),zB 8 .add 5 7,zm 0 8]
def Mh:C:=zR [0] [zm 9 0,zB 10 .shr 9 (.k (.int .u64 2)),zB 11 .and 10 (.k (.int .u64 3689348814741910323)),zm 12 0,zB 13 .and 12 (.k (.int .u64 3689348814741910323)),zB 14 .add 11 13,zm 0 14]
def Il:C:=zR [0] [zm 15 0,zB 16 .shr 15 (.k (.int .u64 4)),zm 17 0,zB 18 .add 16 17,zB 19 .and 18 (.k (.int .u64 1085102592571150095)),zm 0 19]
def QX:C:=zR [0] [zm 20 0,zm 21 0,zB 22 .shr 21 (.k (.int .u64 8)),zB 23 .add 20 22,zm 0 23]
def Pd:C:=zR [0] [zm 24 0,zm 25 0,zB 26 .shr 25 (.k (.int .u64 16)),zB 27 .add 24 26,zm 0 27]
def QY:C:=zR [0] [zm 28 0,zm 29 0,zB 30 .shr 29 (.k (.int .u64 32)),zB 31 .add 28 30,zm 0 31]
def Jk:C:=zR [2] [zm 32 0,zq 33 (.conv .i64 32),zB 34 .and 33 (zi 127),zm 2 34]
@[go_sem] def eW:Fc:=⟨1,.seq ON (.seq Mw (.seq Mh (.seq Il (.seq QX (.seq Pd (.seq QY (.seq Jk (.ret)))))))),[.t 2]⟩
def QG:C:=zR [0] [zm 2 (zi 0)]
def IV:C:=zR [0,4] [zm 3 0,zB 4 .eql 3 (.k (.int .u64 0))]
def K2:C:=zR [2] [zm 2 (zi 64)]
def KR:C:=zR [2] [zm 5 0,zm 6 0,zq 7 (.un .neg 6),zB 8 .and 5 7,zB 9 .mul 8 (.k (.int .u64 285870213051353865)),zB 10 .shr 9 (.k (.int .u64 58)),zq 11 (.iad 108 64 12 (.k wv) 10),zL 12 12 11,zq 13 (.conv .i64 12),zm 2 13]
@[go_sem] def dG:Fc:=⟨1,.seq QG (.seq (.seq IV (.cond (.t 4) (.seq K2 (.ret)) (.skip))) (.seq KR (.ret))),[.t 2]⟩
def Lb:C:=zD [] [zm 4 0,zm 5 1,zB 6 .quo 5 (zi 64),zN 7 4,zq 8 (.iad 78 16 18 7 6),zL 9 18 8,zm 10 1,zB 11 .rem 10 (zi 64),zB 12 .shl (.k (.int .u64 1)) 11,zB 13 .xor 9 12,zN 14 4,zq 15 (.iad 78 16 18 14 6),zS 18 15 13]
@[go_sem] def iW:Fc:=⟨2,Lb,[]⟩
def Ny:C:=zR [0,1,2] [zm 6 (zi 0)]
def NO:C:=zR [0,1,7] [zm 9 0,zm 10 2,zC 11 (zf cv) [9,10],zm 7 11]
def NL:C:=zR [0,1,7,21] [zm 12 7,zq 13 (.eq false 1 12 (.k .nilp)),zm 14 13,zg 15 14 false (.mv 1),zg 16 14 false (.bin .lss 15 (zi 0)),zP 17 14 (.k (.bool true)) 16,zm 18 17,zg 19 18 false (.mv 1),zg 20 18 false (.bin .geq 19 (zi 8)),zP 21 18 (.k (.bool true)) 20]
def PW:C:=zR [6] [zm 6 (zi 1)]
def N7:C:=zR [1,7,8] [zm 22 0,zC 23 (zf a8) [22],zm 8 23]
def Nz:C:=zR [1,7,8,25] [zm 24 8,zB 25 .neq 24 (zi 0)]
def NU:C:=zR [6] [zm 26 8,zm 6 26]
def Ko:C:=zD [] [zm 27 7,zm 28 1,zm 29 7,zN 30 29,zF 31 55 2 1 30,zL 32 1 31,zq 33 (.len false 32),zN 34 27,zF 35 55 3 50 34,zq 36 (.iad 50 8 10 35 28),zS 10 36 33]
def OF:C:=zR [6] [zm 6 (zi 0)]
@[go_sem] def iK:Fc:=⟨3,.seq Ny (.seq NO (.seq (.seq NL (.cond (.t 21) (.seq PW (.ret)) (.skip))) (.seq (.seq N7 (.seq Nz (.cond (.t 25) (.seq NU (.ret)) (.skip)))) (.seq Ko (.seq OF (.ret)))))),[.t 6]⟩
def It:C:=zR [1,2,4] [zq 2 (.box false 0),zq 4 (.alloc false (.agg 24 (List.replicate 8 (.int .u64 0)))),zm 5 (zi 0)]
def Og:C:=zR [1,2,4,15] [zm 10 1,zB 11 .lss 10 (zi 0),zm 12 11,zg 13 12 false (.mv 1),zg 14 12 false (.bin .geq 13 (zi 7)),zP 15 12 (.k (.bool true)) 14]
def Md:C:=zR [4,5] [zq 16 (.bld (.agg 24 (List.replicate 8 (.int .u64 0))) []),zS 24 4 16,zm 5 (zi 1)]
def Jf:C:=zR [1,2,4,6] [zq 6 (.alloc false (.agg 24 (List.replicate 8 (.int .u64 0))))]
def Ik:C:=zR [1,2,4,6,17] [zm 17 (zi 0)]
def JU:C:=zR [1,2,4,6,17,18] [zB 18 .lss 17 (zi 7)]
def Ke:C:=zR [1,2,4,6,7,17] [zm 19 17,zm 7 19]
def OG:C:=zR [1,2,4,6,7,8,9,17] [zm 21 1,zB 22 .mul (zi 7) 21,zm 23 7,zB 24 .add 22 23,zq 25 (.iad 48 49 42 2 24),zL 26 42 25,zC 27 (zf j6) [26],zm 20 27,zE 28 20 0,zE 29 20 1,zm 8 28,zm 9 29]
def NB:C:=zR [1,2,4,6,7,8,9,17,31] [zm 30 9,zB 31 .neq 30 (zi 0)]
def M7:C:=zR [4,5] [zq 32 (.bld (.agg 24 (List.replicate 8 (.int .u64 0))) []),zm 33 9,zS 24 4 32,zm 5 33]
def CN:C:=zR [1,2,4,6,17] [zm 34 7,zm 35 8,zq 36 (.iad 24 8 18 6 34),zS 18 36 35]
def EU:C:=zR [1,2,4,6,17] [zB 37 .add 17 (zi 1),zm 17 37]
def Ef:C:=zR [4,5] [zL 38 24 6,zC 39 (zf fR) [38],zS 24 4 39,zm 5 (zi 0)]
def gU:C:=.seq JU (.seq (.cond (.t 18) (.skip) (.exit 0)) (.seq (.block 1 (.seq Ke (.seq OG (.seq (.seq NB (.cond (.t 31) (.seq M7 (.ret)) (.skip))) CN)))) EU))
@[go_sem] def lj:Fc:=⟨2,.seq It (.seq (.seq Og (.cond (.t 15) (.seq Md (.ret)) (.skip))) (.seq Jf (.seq (.seq Ik (.block 0 (.loop [1,2,4,6,17] gU))) (.seq Ef (.ret))))),[.cell 4 24,.t 5]⟩
def O6:C:=zR [0,2,4] [zq 4 (.box false 1),zm 6 (zi 0)]
def OO:C:=zR [0,2,4,7,8] [zm 14 0,zN 15 14,zF 16 61 1 1 15,zL 17 1 16,zC 18 (zf ep) [17],zm 13 18,zE 19 13 0,zE 20 13 1,zm 7 19,zm 8 20]
def OQ:C:=zR [0,2,4,7,8,22] [zm 21 8,zB 22 .neq 21 (zi 0)]
def Kp:C:=zR [6] [zm 23 8,zm 6 23]
def NC:C:=zR [0,2,7,24,25] [zL 24 24 4,zm 25 (zi 0)]
def Mn:C:=zR [0,2,7,24,25,26] [zB 26 .lss 25 (zi 8)]
def IA:C:=zR [0,2,7,9,10,24,25] [zm 27 25,zq 28 (.idx 24 8 24 25),zm 9 27,zm 10 28]
def Iu:C:=zR [0,2,7,11,24,25] [zm 29 0,zN 30 29,zF 31 61 0 1 30,zL 32 1 31,zm 33 7,zm 34 9,zm 35 10,zC 36 (zf aV) [32,33,34,35],zm 11 36]
def O7:C:=zR [0,2,7,11,24,25,38] [zm 37 11,zB 38 .neq 37 (zi 0)]
def IB:C:=zR [6] [zm 39 11,zm 6 39]
def DX:C:=zR [0,2,7,24,25] [zB 40 .add 25 (zi 1),zm 25 40]
def DN:C:=zR [2,7,12] [zm 41 0,zm 42 7,zC 43 (zf bM) [41,42],zm 12 43]
def DG:C:=zR [2,7,12,45] [zm 44 12,zB 45 .neq 44 (zi 0)]
def DT:C:=zR [6] [zm 46 12,zm 6 46]
def CW:C:=zR [] [zm 47 2,zm 48 7,zN 49 47,zS 10 49 48]
def De:C:=zR [6] [zm 6 (zi 0)]
def dz:C:=.seq Mn (.seq (.cond (.t 26) (.skip) (.exit 0)) (.seq (.block 1 (.seq IA (.seq Iu (.seq O7 (.cond (.t 38) (.seq IB (.ret)) (.skip)))))) DX))
@[go_sem] def iY:Fc:=⟨3,.seq O6 (.seq OO (.seq (.seq OQ (.cond (.t 22) (.seq Kp (.ret)) (.skip))) (.seq (.seq NC (.block 0 (.loop [0,2,7,24,25] dz))) (.seq (.seq DN (.seq DG (.cond (.t 45) (.seq DT (.ret)) (.skip)))) (.seq CW (.seq De (.ret))))))),[.t 6]⟩
def Ps:C:=zR [1,2] [zq 1 (.box false 0),zq 2 (.alloc false (.agg 24 (List.replicate 8 (.int .u64 0)))),zm 3 (zi 0)]
def LZ:C:=zR [1,2,4] [zq 4 (.alloc false (.agg 24 (List.replicate 8 (.int .u64 0))))]
def Mc:C:=zR [2,4,7,8] [zL 7 60 1,zm 8 (zi 0)]
def MP:C:=zR [2,4,7,8,9] [zB 9 .lss 8 (zi 7)]
def PN:C:=zR [2,4,5,6,7,8] [zm 10 8,zq 11 (.idx 60 7 7 8),zm 5 10,zm 6 11]
def Jh:C:=zR [2,4,5,6,7,8,17] [zm 12 6,zB 13 .lss 12 (zi 0),zm 14 13,zg 15 14 false (.mv 6),zg 16 14 false (.bin .geq 15 (zi 1024)),zP 17 14 (.k (.bool true)) 16]
def Pc:C:=zR [2,3] [zq 18 (.bld (.agg 24 (List.replicate 8 (.int .u64 0))) []),zS 24 2 18,zm 3 (zi 1)]
def K1:C:=zR [2,4,7,8] [zm 19 5,zm 20 6,zq 21 (.conv .u64 20),zB 22 .or (.k (.int .u64 4294967296)) 21,zq 23 (.iad 24 8 18 4 19),zS 18 23 22]
def Ig:C:=zR [2,4,7,8] [zB 24 .add 8 (zi 1),zm 8 24]
def NZ:C:=zR [2,3] [zL 25 24 4,zC 26 (zf fR) [25],zS 24 2 26,zm 3 (zi 0)]
def eN:C:=.seq MP (.seq (.cond (.t 9) (.skip) (.exit 0)) (.seq (.block 1 (.seq PN (.seq (.seq Jh (.cond (.t 17) (.seq Pc (.ret)) (.skip))) K1))) Ig))
@[go_sem] def lm:Fc:=⟨1,.seq Ps (.seq LZ (.seq (.seq Mc (.block 0 (.loop [2,4,7,8] eN))) (.seq NZ (.ret)))),[.cell 2 24,.t 3]⟩
def OC:C:=zR [0,1] [zm 4 (zi 0)]
def J0:C:=zR [0,1,13] [zm 8 1,zB 9 .lss 8 (zi 0),zm 10 9,zg 11 10 false (.mv 1),zg 12 10 false (.bin .geq 11 (zi 8)),zP 13 10 (.k (.bool true)) 12]
def N4:C:=zR [4] [zm 4 (zi 1)]
def Ie:C:=zR [0,1,5] [zm 14 0,zC 15 (zf a8) [14],zm 5 15]
def KK:C:=zR [0,1,5,17] [zm 16 5,zB 17 .neq 16 (zi 0)]
def QK:C:=zR [4] [zm 18 5,zm 4 18]
def Mt:C:=zR [0,1,23,24] [zm 19 0,zN 20 19,zF 21 59 0 1 20,zL 22 1 21,zq 23 (.len false 22),zm 24 (zi 0)]
def Nb:C:=zR [0,1,23,24,25] [zB 25 .lss 24 23]
def Ji:C:=zR [0,1,6,23,24] [zm 26 24,zm 6 26]
def OT:C:=zR [0,1,7,23,24] [zm 27 0,zN 28 27,zF 29 59 0 1 28,zL 30 1 29,zm 31 6,zq 32 (.sad 55 30 31),zm 7 32]
def DY:C:=zR [0,1,7,23,24,39] [zm 33 7,zm 34 1,zN 35 33,zF 36 55 3 50 35,zq 37 (.iad 50 8 10 36 34),zL 38 10 37,zB 39 .gtr 38 (zi 0)]
def Fd:C:=zR [0,1,23,24] [zm 40 7,zm 41 7,zm 42 1,zN 43 41,zF 44 55 3 50 43,zq 45 (.iad 50 8 10 44 42),zL 46 10 45,zC 47 (zf eZ) [40,46]]
def EO:C:=zR [0,1,23,24] [zB 48 .add 24 (zi 1),zm 24 48]
def EZ:C:=zR [4] [zm 4 (zi 0)]
def c9:C:=.seq Nb (.seq (.cond (.t 25) (.skip) (.exit 0)) (.seq (.block 1 (.seq Ji (.seq OT (.seq DY (.cond (.t 39) Fd (.skip)))))) EO))
@[go_sem] def iB:Fc:=⟨2,.seq OC (.seq (.seq J0 (.cond (.t 13) (.seq N4 (.ret)) (.skip))) (.seq (.seq Ie (.seq KK (.cond (.t 17) (.seq QK (.ret)) (.skip)))) (.seq (.seq Mt (.block 0 (.loop [0,1,23,24] c9))) (.seq EZ (.ret))))),[.t 4]⟩
def QI:C:=zR [0,1,2,7] [zq 7 (.box false 3),zm 8 (zi 0)]
def JF:C:=zR [0,1,2,9,10] [zL 17 44 7,zC 18 (zf jU) [17],zm 16 18,zE 19 16 0,zE 20 16 1,zq 9 (.alloc false (.agg 24 (List.replicate 8 (.int .u64 0)))),zS 24 9 19,zm 10 20]
def QS:C:=zR [0,1,2,9,30] [zm 21 10,zB 22 .neq 21 (zi 0),zm 23 22,zg 24 23 false (.mv 2),zg 25 23 false (.bin .neq 24 (zi 0)),zg 26 23 false (.mv 25),zg 27 26 true (.mv 2),zg 28 26 true (.bin .neq 27 (zi 1)),zg 29 23 false (.pick 26 28 (.k (.bool false))),zP 30 23 (.k (.bool true)) 29]
def Jv:C:=zR [8] [zm 8 (zi 1)]
def Pj:C:=zR [0,1,2,9,11] [zm 31 0,zm 32 2,zC 33 (zf aV) [31,32,(zi 7),(.k (.int .u64 0))],zm 11 33]
def Km:C:=zR [0,1,2,9,11,35] [zm 34 11,zB 35 .neq 34 (zi 0)]
def K8:C:=zR [8] [zm 36 11,zm 8 36]
def Kw:C:=zR [0,1,2,37,38] [zL 37 24 9,zm 38 (zi 0)]
def Pe:C:=zR [0,1,2,37,38,39] [zB 39 .lss 38 (zi 8)]
def Jt:C:=zR [0,1,2,12,13,37,38] [zm 40 38,zq 41 (.idx 24 8 37 38),zm 12 40,zm 13 41]
def Ev:C:=zR [0,1,2,14,37,38] [zm 42 0,zm 43 2,zm 44 12,zm 45 13,zC 46 (zf aV) [42,43,44,45],zm 14 46]
def EA:C:=zR [0,1,2,14,37,38,48] [zm 47 14,zB 48 .neq 47 (zi 0)]
def CX:C:=zR [8] [zm 49 14,zm 8 49]
def Fs:C:=zR [0,1,2,37,38] [zB 50 .add 38 (zi 1),zm 38 50]
def B7:C:=zR [0,1,15] [zm 51 0,zm 52 1,zm 53 2,zC 54 (zf cQ) [51,52,53],zm 15 54]
def E4:C:=zR [0,1,15,56] [zm 55 15,zB 56 .neq 55 (zi 0)]
def EY:C:=zR [8] [zm 57 15,zm 8 57]
def E3:C:=zR [8] [zm 58 0,zm 59 1,zC 60 (zf cO) [58,59],zm 8 60]
def fV:C:=.seq Pe (.seq (.cond (.t 39) (.skip) (.exit 0)) (.seq (.block 1 (.seq Jt (.seq Ev (.seq EA (.cond (.t 48) (.seq CX (.ret)) (.skip)))))) Fs))
@[go_sem] def kG:Fc:=⟨4,.seq QI (.seq JF (.seq (.seq QS (.cond (.t 30) (.seq Jv (.ret)) (.skip))) (.seq (.seq Pj (.seq Km (.cond (.t 35) (.seq K8 (.ret)) (.skip)))) (.seq (.seq Kw (.block 0 (.loop [0,1,2,37,38] fV))) (.seq (.seq B7 (.seq E4 (.cond (.t 56) (.seq EY (.ret)) (.skip)))) (.seq E3 (.ret))))))),[.t 8]⟩
def Nh:C:=zR [0,3] [zq 3 (.box false 1),zm 4 (zi 0)]
def PA:C:=zR [0,3,9] [zm 5 0,zN 6 5,zF 7 43 6 0 6,zL 8 0 7,zq 9 (.un .not 8)]
def M8:C:=zR [4] [zm 4 (zi 3)]
def Mu:C:=zD [0] [zm 10 0,zm 11 0,zm 12 0,zN 13 12,zF 14 43 5 48 13,zL 15 48 14,zL 16 50 3,zN 17 10,zF 18 43 3 48 17,zw (.sta 48 18 15 [3]),zN 19 11,zF 20 43 4 50 19,zS 50 20 16]
def PQ:C:=zR [] [zm 21 0,zC 22 (zf bJ) [21]]
def NJ:C:=zR [4] [zm 4 (zi 0)]
@[go_sem] def fv:Fc:=⟨2,.seq Nh (.seq (.seq PA (.cond (.t 9) (.seq M8 (.ret)) (.skip))) (.seq Mu (.seq PQ (.seq NJ (.ret))))),[.t 4]⟩
def LC:C:=zR [0] [zm 6 0,zN 7 6,zF 8 43 6 0 7,zS 0 8 (.k (.bool false))]
def Ms:C:=zR [0] [zm 9 0,zC 10 (zf bi) [9]]
def Li:C:=zR [0,2] [zm 11 0,zN 12 11,zF 13 43 7 82 12,zL 14 82 13,zq 2 (.alloc false (.agg 82 (List.replicate 1024 (.bool false)))),zS 82 2 14]
def K0:C:=zR [0,2] [zm 15 0,zN 16 15,zF 17 43 2 48 16,zL 18 48 17,zC 19 (zf bd) [2,18]]
def OA:C:=zR [0,2,23,24] [zm 20 0,zN 21 20,zF 22 43 4 50 21,zL 23 50 22,zm 24 (zi 0)]
def K6:C:=zR [0,2,23,24,25] [zB 25 .lss 24 (zi 8)]
def Lh:C:=zR [0,2,4,23,24] [zq 26 (.idx 50 8 23 24),zm 4 26]
def Lw:C:=zR [0,2,4,23,24,32] [zm 27 4,zB 28 .geq 27 (zi 0),zm 29 28,zg 30 29 true (.mv 4),zg 31 29 true (.bin .lss 30 (zi 1024)),zP 32 29 31 (.k (.bool false))]
def J1:C:=zR [0,2,23,24] [zm 33 4,zq 34 (.iad 82 1024 0 2 33),zS 0 34 (.k (.bool true))]
def P7:C:=zR [0,2,23,24] [zB 35 .add 24 (zi 1),zm 24 35]
def Cr:C:=zR [0,2,40,41] [zm 36 0,zN 37 36,zF 38 43 0 1 37,zL 39 1 38,zC 40 (zf bB) [39],zm 41 (zi 0)]
def Fi:C:=zR [0,2,40,41,42] [zB 42 .lss 41 40]
def CB:C:=zR [0,2,5,40,41] [zm 43 41,zm 5 43]
def Ek:C:=zR [0,2,5,40,41,56] [zm 44 5,zq 45 (.iad 82 1024 0 2 44),zL 46 0 45,zq 47 (.un .not 46),zm 48 47,zg 49 48 true (.mv 0),zg 50 48 true (.nilc 49),zg 51 48 true (.fad 43 1 1 50),zg 52 48 true (.ld 1 51),zg 53 48 true (.mv 5),zg 54 48 true (.call (zf bw) [52,53]),zg 55 48 true (.bin .eql 54 (zi 1)),zP 56 48 55 (.k (.bool false))]
def EH:C:=zR [0,2,40,41] [zm 57 0,zN 58 57,zF 59 43 1 1 58,zL 60 1 59,zm 61 5,zC 62 (zf bW) [60,61]]
def Cy:C:=zR [0,2,40,41] [zB 63 .add 41 (zi 1),zm 41 63]
def Fj:C:=zR [] [zm 64 0,zN 65 64,zF 66 43 1 1 65,zL 67 1 66,zC 68 (zf cJ) [67]]
def bu:C:=.seq K6 (.seq (.cond (.t 25) (.skip) (.exit 0)) (.seq (.block 1 (.seq Lh (.seq Lw (.cond (.t 32) J1 (.skip))))) P7))
def bv:C:=.seq Fi (.seq (.cond (.t 42) (.skip) (.exit 2)) (.seq (.block 3 (.seq CB (.seq Ek (.cond (.t 56) EH (.skip))))) Cy))
@[go_sem] def ft:Fc:=⟨1,.seq LC (.seq Ms (.seq Li (.seq K0 (.seq (.seq OA (.block 0 (.loop [0,2,23,24] bu))) (.seq (.seq Cr (.block 2 (.loop [0,2,40,41] bv))) Fj))))),[]⟩
def Oq:C:=zR [0,1] [zm 4 (.k .nilp)]
def QA:C:=zR [0,1,15] [zm 5 1,zB 6 .lss 5 (zi 0),zm 7 6,zg 8 7 false (.mv 1),zg 9 7 false (.mv 0),zg 10 7 false (.nilc 9),zg 11 7 false (.fad 59 0 1 10),zg 12 7 false (.ld 1 11),zg 13 7 false (.len false 12),zg 14 7 false (.bin .geq 8 13),zP 15 7 (.k (.bool true)) 14]
def KU:C:=zR [4] [zm 4 (.k .nilp)]
def I2:C:=zR [4] [zm 16 0,zN 17 16,zF 18 59 0 1 17,zL 19 1 18,zm 20 1,zq 21 (.sad 55 19 20),zm 4 21]
@[go_sem] def jK:Fc:=⟨2,.seq Oq (.seq (.seq QA (.cond (.t 15) (.seq KU (.ret)) (.skip))) (.seq I2 (.ret))),[.t 4]⟩
def KE:C:=zR [1] [zq 1 (.box false 0),zm 2 (.k (.int .u64 0)),zm 3 (zi 0)]
def Ro:C:=zR [1,43] [zF 6 42 0 10 1,zL 7 10 6,zB 8 .lss 7 (zi 0),zm 9 8,zg 10 9 false (.fad 42 0 10 1),zg 11 9 false (.ld 10 10),zg 12 9 false (.bin .gtr 11 (zi 4)),zP 13 9 (.k (.bool true)) 12,zm 14 13,zg 15 14 false (.fad 42 1 10 1),zg 16 14 false (.ld 10 15),zg 17 14 false (.bin .lss 16 (zi 0)),zP 18 14 (.k (.bool true)) 17,zm 19 18,zg 20 19 false (.fad 42 1 10 1),zg 21 19 false (.ld 10 20),zg 22 19 false (.bin .gtr 21 (zi 16777215)),zP 23 19 (.k (.bool true)) 22,zm 24 23,zg 25 24 false (.fad 42 2 10 1),zg 26 24 false (.ld 10 25),zg 27 24 false (.bin .lss 26 (zi 0)),zP 28 24 (.k (.bool true)) 27,zm 29 28,zg 30 29 false (.fad 42 2 10 1),zg 31 29 false (.ld 10 30),zg 32 29 false (.bin .geq 31 (zi 1024)),zP 33 29 (.k (.bool true)) 32,zm 34 33,zg 35 34 false (.fad 42 0 10 1),zg 36 34 false (.ld 10 35),zg 37 34 false (.bin .eql 36 (zi 0)),zg 38 34 false (.mv 37),zg 39 38 true (.fad 42 2 10 1),zg 40 38 true (.ld 10 39),zg 41 38 true (.bin .neq 40 (zi 0)),zg 42 34 false (.pick 38 41 (.k (.bool false))),zP 43 34 (.k (.bool true)) 42]
def OY:C:=zR [2,3] [zm 2 (.k (.int .u64 0)),zm 3 (zi 1)]
def Nd:C:=zR [1,4] [zF 45 42 0 10 1,zL 46 10 45,zq 47 (.conv .u64 46),zC 48 (zf aQ) [(.k (.int .u64 0)),(zi 0),(zi 4),47],zm 44 48,zE 49 44 0,zE 50 44 1,zm 4 49,zm 5 50]
def KP:C:=zR [1,4] [zm 52 4,zF 53 42 1 10 1,zL 54 10 53,zq 55 (.conv .u64 54),zC 56 (zf aQ) [52,(zi 4),(zi 24),55],zm 51 56,zE 57 51 0,zE 58 51 1,zm 4 57]
def ML:C:=zR [2,3] [zm 59 4,zF 60 42 2 10 1,zL 61 10 60,zq 62 (.conv .u64 61),zC 63 (zf aQ) [59,(zi 28),(zi 16),62],zE 64 63 0,zE 65 63 1,zm 2 64,zm 3 65]
@[go_sem] def gm:Fc:=⟨1,.seq KE (.seq (.seq Ro (.cond (.t 43) (.seq OY (.ret)) (.skip))) (.seq Nd (.seq KP (.seq ML (.ret))))),[.t 2,.t 3]⟩
def Jp:C:=zR [1,2] [zq 1 (.box false 0),zq 2 (.alloc false (.agg 24 (List.replicate 8 (.int .u64 0))))]
def Is:C:=zR [1,2,3] [zL 4 24 1,zC 5 (zf dI) [4],zq 3 (.alloc false (.agg 108 (List.replicate 64 (.int .u8 0)))),zS 108 3 5]
def Ly:C:=zR [1,2] [zq 6 (.slarr 108 64 12 3 none (some (zi 56)) none),zC 7 (zf eh) [6],zq 8 (.conv .u64 7),zB 9 .or 8 (.k (.int .u64 4294967296)),zq 10 (.iad 24 8 18 1 (zi 7)),zS 18 10 9]
def Kx:C:=zR [2] [zL 11 24 1,zS 24 2 11]
@[go_sem] def gp:Fc:=⟨1,.seq Jp (.seq Is (.seq Ly (.seq Kx (.ret)))),[.cell 2 24]⟩
def P5:C:=zR [0,1,2] [zm 6 (zi 0)]
def LM:C:=zR [2,9] [zm 7 0,zm 8 1,zC 9 (zf bw) [7,8]]
def KN:C:=zR [2,9,10] [zB 11 .eql 9 (zi (-1)),zm 10 11]
def IN:C:=zR [6] [zm 6 (zi 1)]
def Pq:C:=zR [12] [zm 13 2,zB 14 .eql 9 13,zm 12 14]
def Kt:C:=zR [6] [zm 6 (zi 0)]
def Nl:C:=zR [6] [zm 6 (zi 3)]
@[go_sem] def iI:Fc:=⟨3,.seq P5 (.seq (.seq LM (.block 0 (.seq KN (.cond (.t 10) (.seq IN (.ret)) (.seq Pq (.cond (.t 12) (.seq Kt (.ret)) (.skip))))))) (.seq Nl (.ret))),[.t 6]⟩
def MT:C:=zR [0,3] [zq 3 (.box false 1)]
def LA:C:=zR [0,6,7] [zL 6 48 3,zm 7 (zi 0)]
def IU:C:=zR [0,6,7,8] [zB 8 .lss 7 (zi 49)]
def IL:C:=zR [0,5,6,7] [zq 9 (.idx 48 49 6 7),zq 5 (.alloc false (.agg 42 [(.int .i64 0),(.int .i64 0),(.int .i64 0)])),zS 42 5 9]
def IF:C:=zR [0,5,6,7,12] [zF 10 42 0 10 5,zL 11 10 10,zB 12 .neq 11 (zi 0)]
def Oe:C:=zD [0,6,7] [zm 13 0,zF 14 42 2 10 5,zL 15 10 14,zN 16 13,zq 17 (.iad 82 1024 0 16 15),zS 0 17 (.k (.bool true))]
def O1:C:=zR [0,6,7] [zB 18 .add 7 (zi 1),zm 7 18]
def a7:C:=.seq IU (.seq (.cond (.t 8) (.skip) (.exit 0)) (.seq (.block 1 (.seq IL (.seq IF (.cond (.t 12) Oe (.skip))))) O1))
@[go_sem] def ia:Fc:=⟨2,.seq MT (.seq LA (.block 0 (.loop [0,6,7] a7))),[]⟩
def Nv:C:=zR [0] [zm 2 (zi 0)]
def Pt:C:=zR [0,13] [zm 3 0,zN 4 3,zF 5 59 2 0 4,zL 6 0 5,zm 7 6,zg 8 7 true (.mv 0),zg 9 7 true (.nilc 8),zg 10 7 true (.fad 59 3 10 9),zg 11 7 true (.ld 10 10),zg 12 7 true (.bin .eql 11 (zi 0)),zP 13 7 12 (.k (.bool false))]
def OZ:C:=zR [0] [zm 14 0,zN 15 14,zF 16 59 1 0 15,zS 0 16 (.k (.bool true))]
def Qc:C:=zR [0,20] [zm 17 0,zN 18 17,zF 19 59 1 0 18,zL 20 0 19]
def KM:C:=zR [2] [zm 2 (zi 4)]
def Ih:C:=zR [0,24] [zm 21 0,zN 22 21,zF 23 59 2 0 22,zL 24 0 23]
def NI:C:=zR [0] [zm 25 0,zN 26 25,zF 27 59 3 10 26,zL 28 10 27,zB 29 .sub 28 (zi 1),zN 30 25,zF 31 59 3 10 30,zS 10 31 29]
def M5:C:=zR [] [zm 32 0,zN 33 32,zF 34 59 4 10 33,zL 35 10 34,zB 36 .add 35 (zi 1),zN 37 32,zF 38 59 4 10 37,zS 10 38 36]
def O9:C:=zR [2] [zm 2 (zi 0)]
@[go_sem] def iQ:Fc:=⟨1,.seq Nv (.seq (.seq Pt (.cond (.t 13) OZ (.skip))) (.seq (.seq Qc (.cond (.t 20) (.seq KM (.ret)) (.skip))) (.seq (.seq Ih (.cond (.t 24) NI (.skip))) (.seq M5 (.seq O9 (.ret)))))),[.t 2]⟩
def OM:C:=zR [1] [zq 1 (.box false 0),zm 2 (.k (.bool false))]
def QC:C:=zR [2] [zF 3 42 0 10 1,zL 4 10 3,zB 5 .eql 4 (zi 0),zm 6 5,zg 7 6 true (.fad 42 1 10 1),zg 8 6 true (.ld 10 7),zg 9 6 true (.bin .lss 8 (zi 16777215)),zP 10 6 9 (.k (.bool false)),zm 2 10]
@[go_sem] def lb:Fc:=⟨1,.seq OM (.seq QC (.ret)),[.t 2]⟩
def Ku:C:=zR [1] [zq 1 (.box false 0),zm 2 (.k (.int .u64 0)),zm 3 (zi 0)]
def IR:C:=zR [1,29] [zF 4 42 0 10 1,zL 5 10 4,zC 6 (zf cR) [5,(zi 0),(zi 4)],zq 7 (.un .not 6),zm 8 7,zg 9 8 false (.fad 42 1 10 1),zg 10 8 false (.ld 10 9),zg 11 8 false (.call (zf cR) [10,(zi 0),(zi 16777215)]),zg 12 8 false (.un .not 11),zP 13 8 (.k (.bool true)) 12,zm 14 13,zg 15 14 false (.fad 42 2 10 1),zg 16 14 false (.ld 10 15),zg 17 14 false (.call (zf cR) [16,(zi 0),(zi 1023)]),zg 18 14 false (.un .not 17),zP 19 14 (.k (.bool true)) 18,zm 20 19,zg 21 20 false (.fad 42 0 10 1),zg 22 20 false (.ld 10 21),zg 23 20 false (.bin .eql 22 (zi 0)),zg 24 20 false (.mv 23),zg 25 24 true (.fad 42 2 10 1),zg 26 24 true (.ld 10 25),zg 27 24 true (.bin .neq 26 (zi 0)),zg 28 20 false (.pick 24 27 (.k (.bool false))),zP 29 20 (.k (.bool true)) 28]
def Py:C:=zR [2,3] [zm 2 (.k (.int .u64 0)),zm 3 (zi 1)]
def Kc:C:=zR [2,3] [zF 30 42 0 10 1,zL 31 10 30,zq 32 (.conv .u64 31),zF 33 42 1 10 1,zL 34 10 33,zq 35 (.conv .u64 34),zB 36 .shl 35 (.k (.int .u64 4)),zB 37 .or 32 36,zF 38 42 2 10 1,zL 39 10 38,zq 40 (.conv .u64 39),zB 41 .shl 40 (.k (.int .u64 28)),zB 42 .or 37 41,zm 2 42,zm 3 (zi 0)]
@[go_sem] def lc:Fc:=⟨1,.seq Ku (.seq (.seq IR (.cond (.t 29) (.seq Py (.ret)) (.skip))) (.seq Kc (.ret))),[.t 2,.t 3]⟩
def Lu:C:=zR [1,2] [zq 1 (.box false 0),zq 2 (.alloc false (.agg 24 (List.replicate 8 (.int .u64 0))))]
def Ri:C:=zR [1,2,3] [zL 4 24 1,zC 5 (zf kb) [4],zq 3 (.alloc false (.agg 108 (List.replicate 64 (.int .u8 0)))),zS 108 3 5]
def QH:C:=zR [1,2] [zq 6 (.slarr 108 64 12 3 none (some (zi 56)) none),zC 7 (zf mU) [6],zq 8 (.conv .u64 7),zB 9 .or (.k (.int .u64 4294967296)) 8,zq 10 (.iad 24 8 18 1 (zi 7)),zS 18 10 9]
def OU:C:=zR [2] [zL 11 24 1,zS 24 2 11]
@[go_sem] def nI:Fc:=⟨1,.seq Lu (.seq Ri (.seq QH (.seq OU (.ret)))),[.cell 2 24]⟩
def LL:C:=zR [0,1,12,13,14] [zm 7 0,zN 8 7,zF 9 55 2 1 8,zL 10 1 9,zm 11 1,zq 12 (.slc 84 10 none (some 11) none),zq 13 (.len false 12),zm 14 (zi 0)]
def Ks:C:=zR [0,1,12,13,14,15] [zB 15 .lss 14 13]
def NR:C:=zR [0,1,5,12,13,14] [zq 16 (.sad 84 12 14),zL 17 84 16,zq 5 (.alloc false (.agg 84 [(.int .i64 0),(.int .u64 0)])),zS 84 5 17]
def Kh:C:=zD [0,1,12,13,14] [zm 18 0,zF 19 84 0 10 5,zL 20 10 19,zF 21 84 1 18 5,zL 22 18 21,zN 23 18,zF 24 55 1 24 23,zq 25 (.iad 24 8 18 24 20),zS 18 25 22]
def Id:C:=zR [0,1,12,13,14] [zB 26 .add 14 (zi 1),zm 14 26]
def JR:C:=zR [0,1] [zm 27 0,zm 28 0,zN 29 28,zF 30 55 2 1 29,zL 31 1 30,zm 32 1,zq 33 (.slc 84 31 (some 32) none none),zC 34 (zf dg) [33],zN 35 27,zF 36 55 2 1 35,zS 1 36 34]
def Pv:C:=zR [0,1,37] [zm 37 (zi 0)]
def Jy:C:=zR [0,1,37,38] [zB 38 .lss 37 (zi 8)]
def LW:C:=zR [0,1,6,37] [zm 39 37,zm 6 39]
def PU:C:=zD [0,1,37] [zm 40 0,zm 41 6,zm 42 0,zm 43 6,zN 44 42,zF 45 55 3 50 44,zq 46 (.iad 50 8 10 45 43),zL 47 10 46,zm 48 1,zB 49 .sub 47 48,zq 50 (.mnx true (zi 0) 49),zN 51 40,zF 52 55 3 50 51,zq 53 (.iad 50 8 10 52 41),zS 10 53 50]
def Em:C:=zR [0,1,37] [zB 54 .add 37 (zi 1),zm 37 54]
def dX:C:=.seq Ks (.seq (.cond (.t 15) (.skip) (.exit 0)) (.seq (.block 1 (.seq NR Kh)) Id))
def dY:C:=.seq Jy (.seq (.cond (.t 38) (.skip) (.exit 2)) (.seq (.block 3 (.seq LW PU)) Em))
@[go_sem] def ii:Fc:=⟨2,.seq (.seq LL (.block 0 (.loop [0,1,12,13,14] dX))) (.seq JR (.seq Pv (.block 2 (.loop [0,1,37] dY)))),[]⟩
def Pi:C:=zR [1,2] [zq 1 (.box false 0),zq 2 (.alloc false (.agg 24 (List.replicate 8 (.int .u64 0)))),zm 3 (zi 0)]
def Rm:C:=zR [1,2,25] [zF 4 44 0 10 1,zL 5 10 4,zC 6 (zf bI) [5,(zi 1),(zi 1099511627776)],zq 7 (.un .not 6),zm 8 7,zg 9 8 false (.fad 44 1 10 1),zg 10 8 false (.ld 10 9),zg 11 8 false (.call (zf bI) [10,(zi 0),(zi 1023)]),zg 12 8 false (.un .not 11),zP 13 8 (.k (.bool true)) 12,zm 14 13,zg 15 14 false (.fad 44 2 10 1),zg 16 14 false (.ld 10 15),zg 17 14 false (.call (zf bI) [16,(zi 0),(zi 1099511627776)]),zg 18 14 false (.un .not 17),zP 19 14 (.k (.bool true)) 18,zm 20 19,zg 21 20 false (.fad 44 3 10 1),zg 22 20 false (.ld 10 21),zg 23 20 false (.call (zf bI) [22,(zi 1),(zi 8)]),zg 24 20 false (.un .not 23),zP 25 20 (.k (.bool true)) 24]
def ND:C:=zR [2,3] [zq 26 (.bld (.agg 24 (List.replicate 8 (.int .u64 0))) []),zS 24 2 26,zm 3 (zi 1)]
def I3:C:=zR [2,3] [zF 27 44 0 10 1,zL 28 10 27,zq 29 (.conv .u64 28),zF 30 44 1 10 1,zL 31 10 30,zq 32 (.conv .u64 31),zF 33 44 2 10 1,zL 34 10 33,zq 35 (.conv .u64 34),zF 36 44 3 10 1,zL 37 10 36,zq 38 (.conv .u64 37),zq 39 (.bld (.agg 24 (List.replicate 8 (.int .u64 0))) [(0,(.k (.int .u64 1526644958))),(1,29),(2,32),(3,35),(4,38)]),zC 40 (zf fR) [39],zS 24 2 40,zm 3 (zi 0)]
@[go_sem] def li:Fc:=⟨1,.seq Pi (.seq (.seq Rm (.cond (.t 25) (.seq ND (.ret)) (.skip))) (.seq I3 (.ret))),[.cell 2 24,.t 3]⟩
def Rn:C:=zR [0,1] [zm 4 (zi 0)]
def QB:C:=zR [0,1,5] [zm 6 1,zm 7 0,zN 8 7,zF 9 80 0 10 8,zL 10 10 9,zB 11 .lss 6 10,zm 5 11]
def Ma:C:=zR [0,1,5] [zm 12 1,zm 13 0,zN 14 13,zF 15 80 1 10 14,zL 16 10 15,zB 17 .geq 12 16,zm 5 17]
def Lp:C:=zR [4] [zm 4 (zi (-1))]
def NE:C:=zR [0,1,18] [zm 19 0,zN 20 19,zF 21 80 2 78 20,zm 22 1,zC 23 (zf cM) [21,22],zm 18 23]
def Nw:C:=zR [4] [zm 4 (zi 0)]
def Pm:C:=zR [24] [zm 25 0,zN 26 25,zF 27 80 3 78 26,zm 28 1,zC 29 (zf cM) [27,28],zm 24 29]
def LV:C:=zR [4] [zm 4 (zi 2)]
def O0:C:=zR [4] [zm 4 (zi 1)]
@[go_sem] def fX:Fc:=⟨2,.seq Rn (.seq (.block 0 (.seq (.seq QB (.cond (.t 5) (.skip) Ma)) (.cond (.t 5) (.seq Lp (.ret)) (.seq NE (.cond (.t 18) (.seq Nw (.ret)) (.seq Pm (.cond (.t 24) (.seq LV (.ret)) (.skip)))))))) (.seq O0 (.ret))),[.t 4]⟩
def NW:C:=zR [0,1] [zm 4 (zi 0)]
def Ls:C:=zR [0,1,5] [zm 6 0,zm 7 1,zC 8 (zf bD) [6,7,(zi 1)],zm 5 8]
def Qd:C:=zR [0,1,5,10] [zm 9 5,zB 10 .eql 9 (zi 0)]
def Ld:C:=zR [5] [zm 11 0,zN 12 11,zF 13 80 3 78 12,zm 14 1,zC 15 (zf aT) [13,14]]
def Js:C:=zR [4] [zm 16 5,zm 4 16]
@[go_sem] def gk:Fc:=⟨2,.seq NW (.seq Ls (.seq (.seq Qd (.cond (.t 10) Ld (.skip))) (.seq Js (.ret)))),[.t 4]⟩
def MC:C:=zR [0,7,8] [zm 4 0,zN 5 4,zF 6 80 3 78 5,zL 7 78 6,zm 8 (zi 0)]
def Iq:C:=zR [0,7,8,9] [zB 9 .lss 8 (zi 16)]
def KQ:C:=zR [0,2,3,7,8] [zm 10 8,zq 11 (.idx 78 16 7 8),zm 2 10,zm 3 11]
def OX:C:=zD [0,7,8] [zm 12 0,zm 13 2,zN 14 12,zF 15 80 2 78 14,zq 16 (.iad 78 16 18 15 13),zL 17 18 16,zm 18 3,zB 19 .or 17 18,zN 20 12,zF 21 80 2 78 20,zq 22 (.iad 78 16 18 21 13),zS 18 22 19]
def QZ:C:=zR [0,7,8] [zB 23 .add 8 (zi 1),zm 8 23]
def M3:C:=zR [] [zm 24 0,zq 25 (.bld (.agg 78 (List.replicate 16 (.int .u64 0))) []),zN 26 24,zF 27 80 3 78 26,zS 78 27 25]
def ca:C:=.seq Iq (.seq (.cond (.t 9) (.skip) (.exit 0)) (.seq (.block 1 (.seq KQ OX)) QZ))
@[go_sem] def fg:Fc:=⟨1,.seq (.seq MC (.block 0 (.loop [0,7,8] ca))) M3,[]⟩
def OW:C:=zR [0,1,2,3] [zm 8 (.k (.int .u64 0)),zm 9 (zi 0)]
def JQ:C:=zR [0,1,2,3,15] [zm 12 1,zm 13 2,zC 14 (zf eY) [12,13],zq 15 (.un .not 14)]
def OV:C:=zR [8,9] [zm 8 (.k (.int .u64 0)),zm 9 (zi 1)]
def N6:C:=zR [0,1,2,3,10] [zm 16 2,zm 10 16]
def P8:C:=zR [0,1,2,3,10,18] [zm 17 10,zB 18 .lss 17 (zi 64)]
def JI:C:=zR [0,1,2,3,10,24] [zm 21 3,zm 22 10,zC 23 (zf bl) [21,22],zB 24 .eql 23 (.k (.int .u64 1))]
def PR:C:=zR [8,9] [zm 8 (.k (.int .u64 0)),zm 9 (zi 2)]
def PX:C:=zR [0,1,2,3,10] [zm 19 10,zB 20 .add 19 (zi 1),zm 10 20]
def Pg:C:=zR [0,1,2,3,11] [zm 11 (zi 0)]
def Qq:C:=zR [0,1,2,3,11,27] [zm 25 11,zm 26 2,zB 27 .lss 25 26]
def DZ:C:=zR [0,1,2,3,11,38] [zm 30 3,zm 31 11,zC 32 (zf bl) [30,31],zm 33 0,zm 34 1,zm 35 11,zB 36 .add 34 35,zC 37 (zf bl) [33,36],zB 38 .neq 32 37]
def CV:C:=zR [0,1,2,3,11] [zm 39 0,zm 40 1,zm 41 11,zB 42 .add 40 41,zB 43 .shl (.k (.int .u64 1)) 42,zB 44 .xor 39 43,zm 0 44]
def Dj:C:=zR [0,1,2,3,11] [zm 28 11,zB 29 .add 28 (zi 1),zm 11 29]
def Fh:C:=zR [8,9] [zm 45 0,zm 8 45,zm 9 (zi 0)]
def du:C:=.seq (.seq P8 (.cond (.t 18) (.skip) (.exit 0))) (.seq (.block 1 (.seq JI (.cond (.t 24) (.seq PR (.ret)) (.skip)))) PX)
def ck:C:=.seq (.seq Qq (.cond (.t 27) (.skip) (.exit 2))) (.seq (.block 3 (.seq DZ (.cond (.t 38) CV (.skip)))) Dj)
@[go_sem] def gv:Fc:=⟨4,.seq OW (.seq (.seq JQ (.cond (.t 15) (.seq OV (.ret)) (.skip))) (.seq (.seq N6 (.block 0 (.loop [0,1,2,3,10] du))) (.seq (.seq Pg (.block 2 (.loop [0,1,2,3,11] ck))) (.seq Fh (.ret))))),[.t 8,.t 9]⟩
def Kq:C:=zR [1,2] [zq 1 (.box false 0),zq 2 (.alloc false (.agg 108 (List.replicate 64 (.int .u8 0))))]
def MI:C:=zR [1,2,3] [zq 5 (.bld (.agg 108 (List.replicate 64 (.int .u8 0))) []),zq 3 (.alloc false (.agg 108 (List.replicate 64 (.int .u8 0)))),zS 108 3 5]
def Kk:C:=zR [1,2,3,4] [zm 4 (zi 0)]
def K3:C:=zR [1,2,3,4,7] [zm 6 4,zB 7 .lss 6 (zi 64)]
def Oy:C:=zR [1,2,3,4] [zm 10 4,zm 11 4,zB 12 .quo 11 (zi 8),zq 13 (.iad 24 8 18 1 12),zL 14 18 13,zm 15 4,zB 16 .rem 15 (zi 8),zB 17 .mul (zi 8) 16,zB 18 .shr 14 17,zq 19 (.conv .u8 18),zq 20 (.iad 108 64 12 3 10),zS 12 20 19]
def PD:C:=zR [1,2,3,4] [zm 8 4,zB 9 .add 8 (zi 1),zm 4 9]
def PP:C:=zR [2] [zL 21 108 3,zS 108 2 21]
def cY:C:=.seq (.seq K3 (.cond (.t 7) (.skip) (.exit 0))) (.seq (.block 1 Oy) PD)
@[go_sem] def fu:Fc:=⟨1,.seq Kq (.seq MI (.seq (.seq Kk (.block 0 (.loop [1,2,3,4] cY))) (.seq PP (.ret)))),[.cell 2 108]⟩
def Lg:C:=zR [0] [zm 2 (.k (.int .u32 0))]
def O4:C:=zR [2] [zm 3 0,zC 4 (zf cU) [(.k (.int .u32 4294967295)),3],zq 5 (.un .xor 4),zm 2 5]
@[go_sem] def gV:Fc:=⟨1,.seq Lg (.seq O4 (.ret)),[.t 2]⟩
def Nx:C:=zR [0,1,2] [zm 6 (.k (.bool false))]
def Rk:C:=zR [6] [zm 7 0,zm 8 1,zB 9 .geq 7 8,zm 10 9,zg 11 10 true (.mv 0),zg 12 10 true (.mv 2),zg 13 10 true (.bin .leq 11 12),zP 14 10 13 (.k (.bool false)),zm 6 14]
@[go_sem] def jT:Fc:=⟨3,.seq Nx (.seq Rk (.ret)),[.t 6]⟩
def Nt:C:=zR [1,2] [zq 1 (.box false 0),zq 2 (.alloc false (.agg 108 (List.replicate 64 (.int .u8 0))))]
def Mx:C:=zR [1,2,3] [zq 3 (.alloc false (.agg 108 (List.replicate 64 (.int .u8 0))))]
def Mq:C:=zR [2,3,7,8] [zL 7 24 1,zm 8 (zi 0)]
def NF:C:=zR [2,3,7,8,9] [zB 9 .lss 8 (zi 8)]
def JL:C:=zR [2,3,4,5,7,8] [zm 10 8,zq 11 (.idx 24 8 7 8),zm 4 10,zm 5 11]
def I4:C:=zR [2,3,4,5,7,8,12] [zm 12 (zi 0)]
def Io:C:=zR [2,3,4,5,7,8,12,13] [zB 13 .lss 12 (zi 8)]
def Re:C:=zR [2,3,4,5,6,7,8,12] [zm 14 12,zm 6 14]
def OH:C:=zR [2,3,4,5,7,8,12] [zm 15 4,zB 16 .mul (zi 8) 15,zm 17 6,zB 18 .add 16 17,zm 19 5,zm 20 6,zB 21 .mul (zi 8) 20,zB 22 .shr 19 21,zq 23 (.conv .u8 22),zq 24 (.iad 108 64 12 3 18),zS 12 24 23]
def JN:C:=zR [2,3,4,5,7,8,12] [zB 25 .add 12 (zi 1),zm 12 25]
def E7:C:=zR [2,3,7,8] [zB 26 .add 8 (zi 1),zm 8 26]
def EP:C:=zR [2] [zL 27 108 3,zS 108 2 27]
def jn:C:=.seq Io (.seq (.cond (.t 13) (.skip) (.exit 2)) (.seq (.block 3 (.seq Re OH)) JN))
def ji:C:=.seq NF (.seq (.cond (.t 9) (.skip) (.exit 0)) (.seq (.block 1 (.seq JL (.seq I4 (.block 2 (.loop [2,3,4,5,7,8,12] jn))))) E7))
@[go_sem] def lA:Fc:=⟨1,.seq Nt (.seq Mx (.seq (.seq Mq (.block 0 (.loop [2,3,7,8] ji))) (.seq EP (.ret)))),[.cell 2 108]⟩
def IG:C:=zR [0] [zm 2 (.k (.int .u32 0))]
def LP:C:=zR [2] [zm 3 0,zC 4 (zf lS) [(.k (.int .u32 0)),3],zm 2 4]
@[go_sem] def oP:Fc:=⟨1,.seq IG (.seq LP (.ret)),[.t 2]⟩
def Rp:C:=zR [0] [zm 2 (.k .nils)]
def Oi:C:=zR [0,4] [zm 3 0,zq 4 (.eq false 3 3 (.k .nils))]
def JA:C:=zR [2] [zm 2 (.k .nils)]
def Iv:C:=zR [2] [zq 5 (.bsl true 86 84 (.agg 84 [(.int .i64 0),(.int .u64 0)]) 0 []),zm 6 0,zq 7 (.app true 86 84 5 6),zm 2 7]
@[go_sem] def eE:Fc:=⟨1,.seq Rp (.seq (.seq Oi (.cond (.t 4) (.seq JA (.ret)) (.skip))) (.seq Iv (.ret))),[.t 2]⟩
def IX:C:=zR [0,1,2] [zm 6 (.k (.bool false))]
def Ra:C:=zR [6] [zm 7 0,zm 8 1,zB 9 .geq 7 8,zm 10 9,zg 11 10 true (.mv 0),zg 12 10 true (.mv 2),zg 13 10 true (.bin .leq 11 12),zP 14 10 13 (.k (.bool false)),zm 6 14]
@[go_sem] def ko:Fc:=⟨3,.seq IX (.seq Ra (.ret)),[.t 6]⟩
def PG:C:=zR [0,1] [zm 4 (.k (.bool false))]
def IZ:C:=zR [4] [zm 5 0,zm 6 1,zB 7 .quo 6 (zi 64),zN 8 5,zq 9 (.iad 78 16 18 8 7),zL 10 18 9,zm 11 1,zB 12 .rem 11 (zi 64),zB 13 .shr 10 12,zB 14 .and 13 (.k (.int .u64 1)),zB 15 .eql 14 (.k (.int .u64 1)),zm 4 15]
@[go_sem] def jz:Fc:=⟨2,.seq PG (.seq IZ (.ret)),[.t 4]⟩
def JX:C:=zR [0,1] [zm 4 (.k (.bool false))]
def KB:C:=zR [4] [zm 5 0,zB 6 .geq 5 (zi 0),zm 7 6,zg 8 7 true (.mv 0),zg 9 7 true (.bin .leq 8 (zi 63)),zP 10 7 9 (.k (.bool false)),zm 11 10,zg 12 11 true (.mv 1),zg 13 11 true (.bin .geq 12 (zi 1)),zP 14 11 13 (.k (.bool false)),zm 15 14,zg 16 15 true (.mv 1),zg 17 15 true (.bin .leq 16 (zi 64)),zP 18 15 17 (.k (.bool false)),zm 19 18,zg 20 19 true (.mv 0),zg 21 19 true (.mv 1),zg 22 19 true (.bin .add 20 21),zg 23 19 true (.bin .leq 22 (zi 64)),zP 24 19 23 (.k (.bool false)),zm 4 24]
@[go_sem] def iu:Fc:=⟨2,.seq JX (.seq KB (.ret)),[.t 4]⟩
def ME:C:=zR [0,1] [zm 4 (.k (.int .u64 0))]
def LI:C:=zR [4] [zm 5 0,zm 6 1,zB 7 .shr 5 6,zB 8 .and 7 (.k (.int .u64 1)),zm 4 8]
@[go_sem] def gS:Fc:=⟨2,.seq ME (.seq LI (.ret)),[.t 4]⟩
def O3:C:=zR [0,1] [zm 4 (.k (.int .u32 0))]
def PB:C:=zR [0,1,5] [zm 5 (zi 0)]
def Qe:C:=zR [0,1,5,11] [zm 8 5,zm 9 1,zq 10 (.len false 9),zB 11 .lss 8 10]
def Mk:C:=zR [0,1,5] [zm 14 0,zm 15 1,zm 16 5,zq 17 (.sad 12 15 16),zL 18 12 17,zq 19 (.conv .u32 18),zB 20 .xor 14 19,zm 0 20]
def Q6:C:=zR [0,1,5,6] [zm 6 (zi 0)]
def Of:C:=zR [0,1,5,6,22] [zm 21 6,zB 22 .lss 21 (zi 8)]
def QD:C:=zR [0,1,5,6,7] [zm 25 0,zB 26 .and 25 (.k (.int .u32 1)),zm 7 26]
def I5:C:=zR [0,1,5,6,7] [zm 27 0,zB 28 .shr 27 (.k (.int .u64 1)),zm 0 28]
def Q7:C:=zR [0,1,5,6,30] [zm 29 7,zB 30 .eql 29 (.k (.int .u32 1))]
def NH:C:=zR [0,1,5,6] [zm 31 0,zB 32 .xor 31 (.k (.int .u32 3988292384)),zm 0 32]
def D2:C:=zR [0,1,5,6] [zm 23 6,zB 24 .add 23 (zi 1),zm 6 24]
def C3:C:=zR [0,1,5] [zm 12 5,zB 13 .add 12 (zi 1),zm 5 13]
def Fe:C:=zR [4] [zm 33 0,zm 4 33]
def bz:C:=.seq (.seq Of (.cond (.t 22) (.skip) (.exit 2))) (.seq (.block 3 (.seq QD (.seq I5 (.seq Q7 (.cond (.t 30) NH (.skip)))))) D2)
def cA:C:=.seq (.seq Qe (.cond (.t 11) (.skip) (.exit 0))) (.seq (.block 1 (.seq Mk (.seq Q6 (.block 2 (.loop [0,1,5,6] bz))))) C3)
@[go_sem] def ea:Fc:=⟨2,.seq O3 (.seq (.seq PB (.block 0 (.loop [0,1,5] cA))) (.seq Fe (.ret))),[.t 4]⟩
def I6:C:=zR [0,1] [zm 4 (.k (.int .u32 0))]
def JV:C:=zR [1,5] [zm 8 0,zq 9 (.un .xor 8),zm 5 9]
def If:C:=zR [5,10,11,12] [zm 10 1,zq 11 (.len false 10),zm 12 (zi 0)]
def Ju:C:=zR [5,10,11,12,13] [zB 13 .lss 12 11]
def Qb:C:=zR [5,7,10,11,12] [zq 14 (.sad 12 10 12),zL 15 12 14,zm 7 15]
def Mv:C:=zR [5,10,11,12] [zm 16 5,zm 17 7,zq 18 (.conv .u32 17),zB 19 .xor 16 18,zm 5 19]
def MH:C:=zR [5,10,11,12,20] [zm 20 (zi 0)]
def Iw:C:=zR [5,10,11,12,20,21] [zB 21 .lss 20 (zi 8)]
def Qj:C:=zR [5,10,11,12,20] [zm 22 5,zB 23 .shr 22 (.k (.int .u64 1)),zm 24 5,zB 25 .and 24 (.k (.int .u32 1)),zq 26 (.un .neg 25),zB 27 .and (.k (.int .u32 3988292384)) 26,zB 28 .xor 23 27,zm 5 28]
def I7:C:=zR [5,10,11,12,20] [zB 29 .add 20 (zi 1),zm 20 29]
def Fw:C:=zR [5,10,11,12] [zB 30 .add 12 (zi 1),zm 12 30]
def Ee:C:=zR [4] [zm 31 5,zq 32 (.un .xor 31),zm 4 32]
def kc:C:=.seq Iw (.seq (.cond (.t 21) (.skip) (.exit 2)) (.seq (.block 3 Qj) I7))
def jZ:C:=.seq Ju (.seq (.cond (.t 13) (.skip) (.exit 0)) (.seq (.block 1 (.seq Qb (.seq Mv (.seq MH (.block 2 (.loop [5,10,11,12,20] kc)))))) Fw))
@[go_sem] def no:Fc:=⟨2,.seq I6 (.seq JV (.seq (.seq If (.block 0 (.loop [5,10,11,12] jZ))) (.seq Ee (.ret)))),[.t 4]⟩
def D : Nat → Option Fc
  | 4 => some dS
  | 5 => some fA
  | 6 => some gc
  | 7 => some eV
  | 9 => some fZ
  | 10 => some gZ
  | 11 => some gM
  | 12 => some f9
  | 13 => some iP
  | 14 => some ju
  | 15 => some jv
  | 16 => some fq
  | 17 => some ie
  | 18 => some i7
  | 19 => some qr
  | 20 => some fj
  | 21 => some lq
  | 22 => some fw
  | 23 => some jN
  | 24 => some m8
  | 25 => some fB
  | 26 => some it
  | 27 => some hU
  | 28 => some ik
  | 29 => some gN
  | 30 => some gj
  | 31 => some gP
  | 32 => some iV
  | 33 => some kg
  | 34 => some jt
  | 35 => some jw
  | 36 => some jg
  | 37 => some iH
  | 38 => some gu
  | 39 => some iL
  | 40 => some ja
  | 41 => some oS
  | 42 => some gn
  | 43 => some ga
  | 44 => some lh
  | 45 => some iF
  | 46 => some gG
  | 47 => some fY
  | 48 => some ip
  | 49 => some iJ
  | 50 => some il
  | 51 => some gW
  | 52 => some gH
  | 53 => some mt
  | 54 => some eW
  | 55 => some dG
  | 56 => some iW
  | 57 => some iK
  | 58 => some lj
  | 59 => some iY
  | 60 => some lm
  | 61 => some iB
  | 62 => some kG
  | 63 => some fv
  | 64 => some ft
  | 65 => some jK
  | 66 => some gm
  | 67 => some gp
  | 68 => some iI
  | 69 => some ia
  | 70 => some iQ
  | 71 => some lb
  | 72 => some lc
  | 73 => some nI
  | 74 => some ii
  | 75 => some li
  | 76 => some fX
  | 77 => some gk
  | 78 => some fg
  | 79 => some gv
  | 80 => some fu
  | 81 => some gV
  | 82 => some jT
  | 83 => some lA
  | 84 => some oP
  | 85 => some eE
  | 86 => some ko
  | 87 => some jz
  | 88 => some iu
  | 89 => some gS
  | 90 => some ea
  | 91 => some no
  | _ => none
theorem lw:D ix = some dS:=rfl
theorem nD:D dJ = some fA:=rfl
theorem n6:D bf = some gc:=rfl
theorem ff:D dv = some eV:=rfl
theorem n9:D aE = some fZ:=rfl
theorem oK:D ep = some gZ:=rfl
theorem pd:D em = some gM:=rfl
theorem nY:D bV = some f9:=rfl
theorem gA:D bL = some iP:=rfl
theorem ry:D bn = some ju:=rfl
theorem io:D aY = some jv:=rfl
theorem ns:D dM = some fq:=rfl
theorem ku:D cB = some ie:=rfl
theorem qW:D gF = some i7:=rfl
theorem Hd:D mm = some qr:=rfl
theorem nv:D dL = some fj:=rfl
theorem kp:D db = some lq:=rfl
theorem np:D bK = some fw:=rfl
theorem Ag:D lN = some m8:=rfl
theorem nJ:D dK = some fB:=rfl
theorem bO:D fb = some it:=rfl
theorem ig:D eD = some hU:=rfl
theorem iC:D fa = some ik:=rfl
theorem oD:D dh = some gN:=rfl
theorem jS:D bg = some gj:=rfl
theorem kq:D eB = some gP:=rfl
theorem qP:D bM = some iV:=rfl
theorem tW:D jm = some kg:=rfl
theorem sd:D dD = some jt:=rfl
theorem rL:D dC = some jw:=rfl
theorem qV:D dk = some jg:=rfl
theorem kW:D cP = some iH:=rfl
theorem jR:D dZ = some gu:=rfl
theorem pG:D bj = some iL:=rfl
theorem lE:D dn = some ja:=rfl
theorem Ea:D mQ = some oS:=rfl
theorem jP:D dW = some gn:=rfl
theorem jM:D dV = some ga:=rfl
theorem qp:D gT = some lh:=rfl
theorem qa:D bB = some iF:=rfl
theorem kr:D bF = some gG:=rfl
theorem nV:D bi = some fY:=rfl
theorem pB:D bP = some ip:=rfl
theorem fT:D aV = some iJ:=rfl
theorem kt:D cD = some il:=rfl
theorem iq:D cW = some gW:=rfl
theorem jX:D cj = some gH:=rfl
theorem yB:D kQ = some mt:=rfl
theorem mB:D dq = some eW:=rfl
theorem kS:D cw = some dG:=rfl
theorem lD:D aT = some iW:=rfl
theorem fM:D cQ = some iK:=rfl
theorem pH:D je = some lj:=rfl
theorem gD:D dm = some iY:=rfl
theorem pL:D iR = some lm:=rfl
theorem i6:D cO = some iB:=rfl
theorem fF:D jH = some kG:=rfl
theorem jB:D dH = some fv:=rfl
theorem nE:D bJ = some ft:=rfl
theorem tt:D cv = some jK:=rfl
theorem be:D d6 = some gm:=rfl
theorem oe:D bX = some gp:=rfl
theorem qm:D bD = some iI:=rfl
theorem kw:D bd = some ia:=rfl
theorem qZ:D a8 = some iQ:=rfl
theorem xa:D km = some lb:=rfl
theorem xI:D j6 = some lc:=rfl
theorem AX:D fR = some nI:=rfl
theorem pt:D eZ = some ii:=rfl
theorem xN:D jU = some li:=rfl
theorem gJ:D bw = some fX:=rfl
theorem jQ:D bW = some gk:=rfl
theorem nj:D cJ = some fg:=rfl
theorem nL:D aQ = some gv:=rfl
theorem nu:D dI = some fu:=rfl
theorem pk:D eh = some gV:=rfl
theorem tU:D cR = some jT:=rfl
theorem w5:D kb = some lA:=rfl
theorem B9:D mU = some oP:=rfl
theorem eP:D dg = some eE:=rfl
theorem uq:D bI = some ko:=rfl
theorem mr:D cM = some jz:=rfl
theorem px:D eY = some iu:=rfl
theorem oG:D bl = some gS:=rfl
theorem lG:D cU = some ea:=rfl
theorem AV:D lS = some no:=rfl
@[go_sem] theorem ahF:rc D b Ue ρ s=(fun v0 v1=>(some (.normal,[(0,v0),(1,v1)],s):OR)) (get ρ 0) (get ρ 1):=zr
@[go_sem] theorem ahf:rc D b Us ρ s=(fun v0 v1=>(aa (rf D dJ [] s) fun x0=>some (.normal,[(0,v0),(1,v1),(5,x0.1)],x0.2):OR)) (get ρ 0) (get ρ 1):=zr
@[go_sem] theorem ahz:rc D b UV ρ s=(fun v0 v1 v5=>(aa (rf D bf [(.int .i64 300),(.int .i64 12)] s) fun x0=>aa (aF 0 x0.1) fun _x1=>aa (aF 1 x0.1) fun x2=>aa (aF 2 x0.1) fun x3=>some (.normal,[(0,v0),(1,v1),(5,v5),(7,x2),(8,x3)],x0.2):OR)) (get ρ 0) (get ρ 1) (get ρ 5):=zr
@[go_sem] theorem aht:rc D b TO ρ s=(fun v0 v1 v5 v7 v8=>(aa (vun .not v5) fun x0=>ao x0 false (aa (eqv false 1 v8 .nilp) fun x1=>some (.normal,[(0,v0),(1,v1),(7,v7),(8,v8),(30,x1)],s)) (some (.normal,[(0,v0),(1,v1),(7,v7),(8,v8),(30,(.bool true))],s)) (none):OR)) (get ρ 0) (get ρ 1) (get ρ 5) (get ρ 7) (get ρ 8):=zr
@[go_sem] theorem ahe:rc D b TQ ρ s= some (.normal,[(4,(.bool false))],s):=zr
@[go_sem] theorem ahm:rc D b UI ρ s=(fun v0 v1 v7 v8=>(some (.normal,[(0,v0),(1,v1),(7,v7),(8,v8),(9,(.int .i64 0))],s):OR)) (get ρ 0) (get ρ 1) (get ρ 7) (get ρ 8):=zr
@[go_sem] theorem ahG:rc D b UO ρ s=(fun v0 v1 v7 v8 v9=>(aa (V.slen false v0) fun x0=>aa (ab .lss v9 (.int .i64 x0)) fun x1=>ao x1 true (aa (ab .lss v9 (.int .i64 20)) fun x2=>some (.normal,[(0,v0),(1,v1),(7,v7),(8,v8),(9,v9),(38,x2)],s)) (some (.normal,[(0,v0),(1,v1),(7,v7),(8,v8),(9,v9),(38,(.bool false))],s)) (none):OR)) (get ρ 0) (get ρ 1) (get ρ 7) (get ρ 8) (get ρ 9):=zr
@[go_sem] theorem ahD:rc D b U7 ρ s=(fun v0 v1 v7 v8 v9=>(aa (ef 54 v0 v9) fun x0=>aa (ldv s 54 x0) fun x1=>aa (rf D dv [v7,x1] s) fun x2=>some (.normal,[(0,v0),(1,v1),(7,v7),(8,v8),(9,v9)],x2.2):OR)) (get ρ 0) (get ρ 1) (get ρ 7) (get ρ 8) (get ρ 9):=zr
@[go_sem] theorem ahP:rc D b T6 ρ s=(fun v0 v1 v7 v8 v9=>(aa (ab .add v9 (.int .i64 1)) fun x0=>some (.normal,[(0,v0),(1,v1),(7,v7),(8,v8),(9,x0)],s):OR)) (get ρ 0) (get ρ 1) (get ρ 7) (get ρ 8) (get ρ 9):=zr
@[go_sem] theorem ahy:rc D b T3 ρ s=(fun v1 v7 v8=>(aa (rf D bV [v7] s) fun x0=>let x1:V:=.ptr (St.fresh x0.2 false) [] 48; let s1:St:=St.new x0.2 false (.agg 48 (List.replicate 49 (.agg 42 [(.int .i64 0),(.int .i64 0),(.int .i64 0)]))); aa (stv b s1 48 x0.1 x1) fun s2=>some (.normal,[(1,v1),(7,v7),(8,v8),(10,x1)],s2):OR)) (get ρ 1) (get ρ 7) (get ρ 8):=zr
@[go_sem] theorem agQ:rc D b Q5 ρ s=(fun v1 v7 v8 v10=>(aa (aj (List.replicate 49 (.agg 26 [(.int .i64 0),(.int .i64 0),(.agg 24 (List.replicate 8 (.int .u64 0)))])) []) fun x0=>let x1:V:=.ptr (St.fresh s false) [] 30; let s1:St:=St.new s false (.agg 30 (List.replicate 49 (.agg 26 [(.int .i64 0),(.int .i64 0),(.agg 24 (List.replicate 8 (.int .u64 0)))]))); aa (stv b s1 30 (.agg 30 x0) x1) fun s2=>some (.normal,[(1,v1),(7,v7),(8,v8),(10,v10),(11,x1)],s2):OR)) (get ρ 1) (get ρ 7) (get ρ 8) (get ρ 10):=zr
@[go_sem] theorem abx:rc D b Om ρ s=(fun v1 v7 v8 v10 v11=>(some (.normal,[(1,v1),(7,v7),(8,v8),(10,v10),(11,v11),(12,(.int .i64 0))],s):OR)) (get ρ 1) (get ρ 7) (get ρ 8) (get ρ 10) (get ρ 11):=zr
@[go_sem] theorem afG:rc D b Ii ρ s=(fun v1 v7 v8 v10 v11 v12=>(aa (ab .lss v12 (.int .i64 49)) fun x0=>some (.normal,[(1,v1),(7,v7),(8,v8),(10,v10),(11,v11),(12,v12),(51,x0)],s):OR)) (get ρ 1) (get ρ 7) (get ρ 8) (get ρ 10) (get ρ 11) (get ρ 12):=zr
@[go_sem] theorem afN:rc D b LJ ρ s=(fun v1 v7 v8 v10 v11 v12=>(aa (rf D cB [v7,v12] s) fun x0=>aa (aF 0 x0.1) fun x1=>aa (aF 1 x0.1) fun _x2=>aa (aX 30 49 26 v11 v12) fun x3=>aa (stv b x0.2 26 x1 x3) fun s4=>some (.normal,[(1,v1),(7,v7),(8,v8),(10,v10),(11,v11),(12,v12)],s4):OR)) (get ρ 1) (get ρ 7) (get ρ 8) (get ρ 10) (get ρ 11) (get ρ 12):=zr
@[go_sem] theorem agX:rc D b Me ρ s=(fun v1 v7 v8 v10 v11 v12=>(aa (ab .add v12 (.int .i64 1)) fun x0=>some (.normal,[(1,v1),(7,v7),(8,v8),(10,v10),(11,v11),(12,x0)],s):OR)) (get ρ 1) (get ρ 7) (get ρ 8) (get ρ 10) (get ρ 11) (get ρ 12):=zr
@[go_sem] theorem ZF:rc D b Ql ρ s=(fun v1 v7 v8 v10 v11=>(aa (rf D aE [v1,(.int .i64 100)] s) fun x0=>aa (rf D bL [v8,x0.1] x0.2) fun x1=>some (.normal,[(7,v7),(8,v8),(10,v10),(11,v11)],x1.2):OR)) (get ρ 1) (get ρ 7) (get ρ 8) (get ρ 10) (get ρ 11):=zr
@[go_sem] theorem acA:rc D b QO ρ s=(fun v7 v8 v10 v11=>(some (.normal,[(7,v7),(8,v8),(10,v10),(11,v11),(13,(.int .i64 0))],s):OR)) (get ρ 7) (get ρ 8) (get ρ 10) (get ρ 11):=zr
@[go_sem] theorem abA:rc D b MZ ρ s=(fun v7 v8 v10 v11 v13=>(aa (ab .lss v13 (.int .i64 60)) fun x0=>ao x0 true (aa (rf D bn [v8] s) fun x1=>aa (ab .gtr x1.1 (.int .i64 0)) fun x2=>some (.normal,[(7,v7),(8,v8),(10,v10),(11,v11),(13,v13),(72,x2)],x1.2)) (some (.normal,[(7,v7),(8,v8),(10,v10),(11,v11),(13,v13),(72,(.bool false))],s)) (none):OR)) (get ρ 7) (get ρ 8) (get ρ 10) (get ρ 11) (get ρ 13):=zr
@[go_sem] theorem Yx:rc D b PT ρ s=(fun v7 v8 v10 v11 v13=>(aa (rf D aY [v8] s) fun x0=>aa (aF 0 x0.1) fun _x1=>aa (aF 1 x0.1) fun x2=>some (.normal,[(7,v7),(8,v8),(10,v10),(11,v11),(13,v13),(15,x2)],x0.2):OR)) (get ρ 7) (get ρ 8) (get ρ 10) (get ρ 11) (get ρ 13):=zr
@[go_sem] theorem aaE:rc D b Qk ρ s=(fun v7 v8 v10 v11 v13 v15=>(aa (ab .neq v15 (.int .i64 0)) fun x0=>ao x0 false (aa (iO D (bc b [v7]) b bV [v7] s) fun x1=>aa (ldv s 48 v10) fun x2=>aa (eqv true 48 x1 x2) fun x3=>some (.normal,[(7,v7),(8,v8),(10,v10),(11,v11),(13,v13),(87,x3)],s)) (some (.normal,[(7,v7),(8,v8),(10,v10),(11,v11),(13,v13),(87,(.bool true))],s)) (none):OR)) (get ρ 7) (get ρ 8) (get ρ 10) (get ρ 11) (get ρ 13) (get ρ 15):=zd
@[go_sem] theorem agR:rc D b Jq ρ s= some (.normal,[(4,(.bool false))],s):=zr
@[go_sem] theorem YL:rc D b IQ ρ s=(fun v7 v8 v10 v11 v13=>(aa (ab .add v13 (.int .i64 1)) fun x0=>some (.normal,[(7,v7),(8,v8),(10,v10),(11,v11),(13,x0)],s):OR)) (get ρ 7) (get ρ 8) (get ρ 10) (get ρ 11) (get ρ 13):=zr
@[go_sem] theorem agZ:rc D b MA ρ s=(fun v7 v8 v11=>(some (.normal,[(7,v7),(8,v8),(11,v11),(16,(.int .i64 0))],s):OR)) (get ρ 7) (get ρ 8) (get ρ 11):=zr
@[go_sem] theorem afK:rc D b MO ρ s=(fun v7 v8 v11 v16=>(aa (ab .lss v16 (.int .i64 49)) fun x0=>some (.normal,[(7,v7),(8,v8),(11,v11),(16,v16),(89,x0)],s):OR)) (get ρ 7) (get ρ 8) (get ρ 11) (get ρ 16):=zr
@[go_sem] theorem aaI:rc D b P2 ρ s=(fun v7 v8 v11 v16=>(aa (rf D cB [v7,v16] s) fun x0=>aa (aF 0 x0.1) fun x1=>aa (aF 1 x0.1) fun _x2=>let x3:V:=.ptr (St.fresh x0.2 false) [] 26; let s3:St:=St.new x0.2 false (.agg 26 [(.int .i64 0),(.int .i64 0),(.agg 24 (List.replicate 8 (.int .u64 0)))]); aa (stv b s3 26 x1 x3) fun s4=>some (.normal,[(7,v7),(8,v8),(11,v11),(16,v16),(17,x3)],s4):OR)) (get ρ 7) (get ρ 8) (get ρ 11) (get ρ 16):=zr
@[go_sem] theorem aar:rc D b M6 ρ s=(fun v7 v8 v11 v16 v17=>(aa (ldv s 26 v17) fun x0=>aa (aX 30 49 26 v11 v16) fun x1=>aa (ldv s 26 x1) fun x2=>aa (eqv true 26 x0 x2) fun x3=>some (.normal,[(7,v7),(8,v8),(11,v11),(16,v16),(102,x3)],s):OR)) (get ρ 7) (get ρ 8) (get ρ 11) (get ρ 16) (get ρ 17):=zd
@[go_sem] theorem abT:rc D b N5 ρ s= some (.normal,[(4,(.bool false))],s):=zr
@[go_sem] theorem abp:rc D b JZ ρ s=(fun v7 v8 v11 v16=>(aa (ab .add v16 (.int .i64 1)) fun x0=>some (.normal,[(7,v7),(8,v8),(11,v11),(16,x0)],s):OR)) (get ρ 7) (get ρ 8) (get ρ 11) (get ρ 16):=zr
@[go_sem] theorem ZI:rc D b I8 ρ s=(fun v8=>(aa (rf D bn [v8] s) fun x0=>aa (ab .eql x0.1 (.int .i64 0)) fun x1=>some (.normal,[(4,x1)],x0.2):OR)) (get ρ 8):=zr
@[go_sem] theorem aha:rc D b Un ρ s= some (.normal,[],s):=zr
@[go_sem] theorem ahB:rc D b UX ρ s= aa (rf D bf [(.int .i64 80),(.int .i64 3)] s) fun x0=>aa (aF 0 x0.1) fun _x1=>aa (aF 1 x0.1) fun _x2=>aa (aF 2 x0.1) fun x3=>some (.normal,[(3,x3)],x0.2):=zr
@[go_sem] theorem ahE:rc D b TD ρ s=(fun v3=>(aa (eqv false 1 v3 .nilp) fun x0=>some (.normal,[(3,v3),(23,x0)],s):OR)) (get ρ 3):=zr
@[go_sem] theorem ahC:rc D b Uk ρ s= some (.normal,[(0,(.bool false))],s):=zr
@[go_sem] theorem ahg:rc D b U6 ρ s=(fun v3=>(aa (rf D aY [v3] s) fun x0=>aa (aF 0 x0.1) fun _x1=>aa (aF 1 x0.1) fun x2=>some (.normal,[(3,v3),(5,x2)],x0.2):OR)) (get ρ 3):=zr
@[go_sem] theorem ahx:rc D b UD ρ s=(fun v3 v5=>(aa (rf D bL [v3,(.int .i64 (-1))] s) fun x0=>some (.normal,[(3,v3),(5,v5),(6,x0.1)],x0.2):OR)) (get ρ 3) (get ρ 5):=zr
@[go_sem] theorem ahn:rc D b TW ρ s=(fun v3 v5 v6=>(aa (rf D bL [v3,(.int .i64 0)] s) fun x0=>some (.normal,[(3,v3),(5,v5),(6,v6),(7,x0.1)],x0.2):OR)) (get ρ 3) (get ρ 5) (get ρ 6):=zr
@[go_sem] theorem ahj:rc D b Va ρ s=(fun v3 v5 v6 v7=>(aa (rf D bn [v3] s) fun x0=>some (.normal,[(3,v3),(5,v5),(6,v6),(7,v7),(8,x0.1)],x0.2):OR)) (get ρ 3) (get ρ 5) (get ρ 6) (get ρ 7):=zr
@[go_sem] theorem ahr:rc D b TC ρ s=(fun v3 v5 v6 v7 v8=>(aa (rf D aY [v3] s) fun x0=>aa (aF 0 x0.1) fun x1=>aa (aF 1 x0.1) fun x2=>some (.normal,[(3,v3),(5,v5),(6,v6),(7,v7),(8,v8),(9,x1),(10,x2)],x0.2):OR)) (get ρ 3) (get ρ 5) (get ρ 6) (get ρ 7) (get ρ 8):=zr
@[go_sem] theorem ahv:rc D b UM ρ s=(fun v3 v5 v6 v7 v8 v9 v10=>(aa (rf D aY [v3] s) fun x0=>aa (aF 0 x0.1) fun x1=>aa (aF 1 x0.1) fun x2=>some (.normal,[(3,v3),(5,v5),(6,v6),(7,v7),(8,v8),(9,v9),(10,v10),(11,x1),(12,x2)],x0.2):OR)) (get ρ 3) (get ρ 5) (get ρ 6) (get ρ 7) (get ρ 8) (get ρ 9) (get ρ 10):=zr
@[go_sem] theorem aaJ:rc D b QE ρ s=(fun v3 v5 v6 v7 v8 v9 v10 v11 v12=>(aa (rf D aY [v3] s) fun x0=>aa (aF 0 x0.1) fun x1=>aa (aF 1 x0.1) fun x2=>some (.normal,[(3,v3),(5,v5),(6,v6),(7,v7),(8,v8),(9,v9),(10,v10),(11,v11),(12,v12),(13,x1),(14,x2)],x0.2):OR)) (get ρ 3) (get ρ 5) (get ρ 6) (get ρ 7) (get ρ 8) (get ρ 9) (get ρ 10) (get ρ 11) (get ρ 12):=zr
@[go_sem] theorem aga:rc D b K7 ρ s=(fun v3 v5 v6 v7 v8 v9 v10 v11 v12 v13 v14=>(aa (rf D gF [v3] s) fun x0=>aa (aF 0 x0.1) fun x1=>aa (aF 1 x0.1) fun x2=>let x3:V:=.ptr (St.fresh x0.2 false) [] 44; let s3:St:=St.new x0.2 false (.agg 44 [(.int .i64 0),(.int .i64 0),(.int .i64 0),(.int .i64 0)]); aa (stv b s3 44 x1 x3) fun s4=>some (.normal,[(3,v3),(5,v5),(6,v6),(7,v7),(8,v8),(9,v9),(10,v10),(11,v11),(12,v12),(13,v13),(14,v14),(15,x3),(16,x2)],s4):OR)) (get ρ 3) (get ρ 5) (get ρ 6) (get ρ 7) (get ρ 8) (get ρ 9) (get ρ 10) (get ρ 11) (get ρ 12) (get ρ 13) (get ρ 14):=zr
@[go_sem] theorem acF:rc D b KA ρ s=(fun v3 v5 v6 v7 v8 v9 v10 v11 v12 v13 v14 v15 v16=>(aa (ab .eql v5 (.int .i64 3)) fun x0=>ao x0 true (aa (ab .eql v6 (.int .i64 1)) fun x1=>ao x1 true (aa (ab .eql v7 (.int .i64 0)) fun x2=>ao x2 true (aa (ab .eql v8 (.int .i64 3)) fun x3=>ao x3 true (aa (vun .not v9) fun x4=>ao x4 true (aa (ab .eql v10 (.int .i64 0)) fun x5=>ao x5 true (aa (vun .not v11) fun x6=>ao x6 true (aa (ab .eql v12 (.int .i64 0)) fun x7=>ao x7 true (ao v13 true (aa (ab .eql v14 (.int .i64 0)) fun x8=>ao x8 true (aa (ae 44 0 10 v15) fun x9=>aa (ldv s 10 x9) fun x10=>aa (ab .eql x10 (.int .i64 2)) fun x11=>ao x11 true (aa (ab .eql v16 (.int .i64 1)) fun x12=>ao x12 true (aa (rf D bn [v3] s) fun x13=>aa (ab .eql x13.1 (.int .i64 0)) fun x14=>some (.normal,[(0,x14)],x13.2)) (some (.normal,[(0,(.bool false))],s)) (none)) (some (.normal,[(0,(.bool false))],s)) (none)) (some (.normal,[(0,(.bool false))],s)) (none)) (some (.normal,[(0,(.bool false))],s)) (none)) (some (.normal,[(0,(.bool false))],s)) (none)) (some (.normal,[(0,(.bool false))],s)) (none)) (some (.normal,[(0,(.bool false))],s)) (none)) (some (.normal,[(0,(.bool false))],s)) (none)) (some (.normal,[(0,(.bool false))],s)) (none)) (some (.normal,[(0,(.bool false))],s)) (none)) (some (.normal,[(0,(.bool false))],s)) (none)) (some (.normal,[(0,(.bool false))],s)) (none):OR)) (get ρ 3) (get ρ 5) (get ρ 6) (get ρ 7) (get ρ 8) (get ρ 9) (get ρ 10) (get ρ 11) (get ρ 12) (get ρ 13) (get ρ 14) (get ρ 15) (get ρ 16):=zr
@[go_sem] theorem ahI:rc D b TT ρ s=(fun v0 v1=>(some (.normal,[(0,v0),(1,v1)],s):OR)) (get ρ 0) (get ρ 1):=zr
@[go_sem] theorem ahM:rc D b Ug ρ s=(fun v0 v1=>(aa (rf D dL [v0,v1] s) fun x0=>aa (rf D mm [x0.1] x0.2) fun x1=>aa (aF 0 x1.1) fun x2=>aa (aF 1 x1.1) fun _x3=>some (.normal,[(1,v1),(7,x2)],x1.2):OR)) (get ρ 0) (get ρ 1):=zr
@[go_sem] theorem aho:rc D b Uw ρ s=(fun v1 v7=>(aa (eqv false 1 v7 .nilp) fun x0=>some (.normal,[(1,v1),(7,v7),(19,x0)],s):OR)) (get ρ 1) (get ρ 7):=zr
@[go_sem] theorem ahA:rc D b Uy ρ s= some (.normal,[(4,.nilp),(5,.nilp),(6,.nilp)],s):=zr
@[go_sem] theorem ahJ:rc D b TU ρ s=(fun v1 v7=>(aa (rf D bK [v1] s) fun x0=>aa (rf D ei [] x0.2) fun x1=>aa (rf D db [v7,(.int .i64 10),x0.1,x1.1] x1.2) fun x2=>aa (aF 0 x2.1) fun x3=>aa (aF 1 x2.1) fun _x4=>some (.normal,[(7,v7),(9,x3)],x2.2):OR)) (get ρ 1) (get ρ 7):=zr
@[go_sem] theorem ahL:rc D b Uo ρ s=(fun v7 v9=>(aa (eqv false 1 v9 .nilp) fun x0=>some (.normal,[(7,v7),(9,v9),(29,x0)],s):OR)) (get ρ 7) (get ρ 9):=zr
@[go_sem] theorem ahk:rc D b UF ρ s= some (.normal,[(4,.nilp),(5,.nilp),(6,.nilp)],s):=zr
@[go_sem] theorem ahN:rc D b Ve ρ s=(fun v7 v9=>(aa (rf D dK [] s) fun x0=>aa (rf D lN [v7,v9,x0.1,(.int .i64 0)] x0.2) fun x1=>some (.normal,[(4,v7),(5,v9),(6,x1.1)],x1.2):OR)) (get ρ 7) (get ρ 9):=zr
@[go_sem] theorem ahO:rc D b TA ρ s=(fun v0 v1=>(if V.ok v1 && ap false v1 then let x0:V:=.ptr (St.fresh s false) [] (V.tag v1); let s0:St:=St.new s false v1; some (.normal,[(0,v0),(3,x0)],s0) else none:OR)) (get ρ 0) (get ρ 1):=zr
@[go_sem] theorem ahi:rc D b UN ρ s=(fun v0 v3=>(aa (ae 54 0 10 v3) fun x0=>aa (ldv s 10 x0) fun x1=>aa (rf D aE [x1,(.int .i64 4)] s) fun x2=>some (.normal,[(0,v0),(3,v3),(6,x2.1)],x2.2):OR)) (get ρ 0) (get ρ 3):=zr
@[go_sem] theorem ahs:rc D b T5 ρ s=(fun v0 v3 v6=>(aa (ab .eql v6 (.int .i64 0)) fun x0=>some (.normal,[(0,v0),(3,v3),(6,v6),(7,x0)],s):OR)) (get ρ 0) (get ρ 3) (get ρ 6):=zr
@[go_sem] theorem ahd:rc D b TR ρ s=(fun v0 v3 v6=>(aa (ab .eql v6 (.int .i64 1)) fun x0=>some (.normal,[(0,v0),(3,v3),(6,v6),(7,x0)],s):OR)) (get ρ 0) (get ρ 3) (get ρ 6):=zr
@[go_sem] theorem ahH:rc D b U0 ρ s=(fun v0 v3=>(aa (ae 54 1 10 v3) fun x0=>aa (ldv s 10 x0) fun x1=>aa (iO D (bc b [x1,(.int .i64 20)]) b aE [x1,(.int .i64 20)] s) fun x2=>aa (ae 54 2 10 v3) fun x3=>aa (ldv s 10 x3) fun x4=>aa (iO D (bc b [x4,(.int .i64 8)]) b aE [x4,(.int .i64 8)] s) fun x5=>aa (ae 54 3 18 v3) fun x6=>aa (ldv s 18 x6) fun x7=>aa (rf D fb [v0,x2,x5,x7] s) fun x8=>some (.normal,[],x8.2):OR)) (get ρ 0) (get ρ 3):=zd
@[go_sem] theorem ahq:rc D b UC ρ s=(fun v0 v3 v6=>(aa (ab .eql v6 (.int .i64 2)) fun x0=>some (.normal,[(0,v0),(3,v3),(6,v6),(20,x0)],s):OR)) (get ρ 0) (get ρ 3) (get ρ 6):=zr
@[go_sem] theorem ahb:rc D b Ur ρ s=(fun v0 v3=>(aa (ae 54 2 10 v3) fun x0=>aa (ldv s 10 x0) fun x1=>aa (rf D aE [x1,(.int .i64 2)] s) fun x2=>aa (ab .add (.int .i64 1) x2.1) fun x3=>aa (rf D eD [v0,x3] x2.2) fun x4=>some (.normal,[],x4.2):OR)) (get ρ 0) (get ρ 3):=zr
@[go_sem] theorem ahu:rc D b UK ρ s=(fun v0 v3 v6=>(aa (ab .eql v6 (.int .i64 3)) fun x0=>some (.normal,[(0,v0),(3,v3),(28,x0)],s):OR)) (get ρ 0) (get ρ 3) (get ρ 6):=zr
@[go_sem] theorem ahc:rc D b T8 ρ s=(fun v0 v3=>(aa (ae 54 1 10 v3) fun x0=>aa (ldv s 10 x0) fun x1=>aa (rf D aE [x1,(.int .i64 20)] s) fun x2=>aa (rf D fa [v0,x2.1] x2.2) fun x3=>some (.normal,[],x3.2):OR)) (get ρ 0) (get ρ 3):=zr
@[go_sem] theorem ahh:rc D b Uv ρ s=(fun v0 v1=>(some (.normal,[(0,v0),(1,v1)],s):OR)) (get ρ 0) (get ρ 1):=zr
@[go_sem] theorem ahl:rc D b Uq ρ s=(fun v0 v1=>(aa (ab .lss v0 (.int .i64 0)) fun x0=>some (.normal,[(0,v0),(1,v1),(6,x0)],s):OR)) (get ρ 0) (get ρ 1):=zr
@[go_sem] theorem ahK:rc D b Ux ρ s=(fun v0 v1=>(aa (ab .add v0 (.int .i64 1)) fun x0=>aa (vun .neg x0) fun x1=>some (.normal,[(0,x1),(1,v1)],s):OR)) (get ρ 0) (get ρ 1):=zr
@[go_sem] theorem ahp:rc D b Uz ρ s=(fun v0 v1=>(aa (ab .rem v0 v1) fun x0=>some (.normal,[(4,x0)],s):OR)) (get ρ 0) (get ρ 1):=zr
@[go_sem] theorem Zr:rc D b Kj ρ s=(fun v0=>(some (.normal,[(0,v0)],s):OR)) (get ρ 0):=zr
@[go_sem] theorem aaV:rc D b PL ρ s=(fun v0=>(aa (ai v0) fun x0=>aa (ae 43 1 1 x0) fun x1=>aa (ldv s 1 x1) fun x2=>aa (rf D bg [x2] s) fun x3=>aa (aF 0 x3.1) fun x4=>aa (aF 1 x3.1) fun x5=>some (.normal,[(2,x4),(3,x5)],x3.2):OR)) (get ρ 0):=zr
@[go_sem] theorem abo:rc D b QJ ρ s=(fun v0=>(let x0:V:=.ptr (St.fresh s false) [] 48; let s0:St:=St.new s false (.agg 48 (List.replicate 49 (.agg 42 [(.int .i64 0),(.int .i64 0),(.int .i64 0)]))); let x1:V:=.ptr (St.fresh s0 false) [] 50; let s1:St:=St.new s0 false (.agg 50 (List.replicate 8 (.int .i64 0))); some (.normal,[(0,v0),(2,x0),(3,x1)],s1):OR)) (get ρ 0):=zr
@[go_sem] theorem acr:rc D b Na ρ s=(fun v0 v2 v3=>(aa (ai v0) fun x0=>aa (ae 43 3 48 x0) fun x1=>aa (ldv s 48 x1) fun x2=>aa (ai v0) fun x3=>aa (ae 43 4 50 x3) fun x4=>aa (uh s 50 x4 v0) fun x5=>aa (oN b s 48 x2 v2 [v0]) fun s6=>aa (stv b s6 50 x5 v3) fun s7=>some (.normal,[(2,v2),(3,v3)],s7):OR)) (get ρ 0) (get ρ 2) (get ρ 3):=zd
@[go_sem] theorem adP:rc D b PZ ρ s=(fun v0=>(let x0:V:=.ptr (St.fresh s false) [] 48; let s0:St:=St.new s false (.agg 48 (List.replicate 49 (.agg 42 [(.int .i64 0),(.int .i64 0),(.int .i64 0)]))); some (.normal,[(0,v0),(2,x0)],s0):OR)) (get ρ 0):=zr
@[go_sem] theorem af8:rc D b Qy ρ s=(fun v0 v2=>(aa (ai v0) fun x0=>aa (ae 43 2 48 x0) fun x1=>aa (ldv s 48 x1) fun x2=>aa (stv b s 48 x2 v2) fun s3=>some (.normal,[(2,v2)],s3):OR)) (get ρ 0) (get ρ 2):=zr
@[go_sem] theorem ad9:rc D b Lc ρ s=(fun v0 v1=>(some (.normal,[(0,v0),(1,v1)],s):OR)) (get ρ 0) (get ρ 1):=zr
@[go_sem] theorem abJ:rc D b J6 ρ s=(fun v0 v1=>(aa (ai v0) fun x0=>aa (ae 61 4 1 x0) fun x1=>aa (ldv s 1 x1) fun x2=>aa (V.slen false x2) fun x3=>aa (ab .gtr (.int .i64 x3) (.int .i64 0)) fun x4=>some (.normal,[(0,v0),(1,v1),(15,x4)],s):OR)) (get ρ 0) (get ρ 1):=zr
@[go_sem] theorem afe:rc D b OE ρ s= some (.normal,[(4,(.int .i64 3))],s):=zr
@[go_sem] theorem afJ:rc D b QV ρ s=(fun v0 v1=>(aa (ab .lss v1 (.int .i64 0)) fun x0=>some (.normal,[(0,v0),(1,v1),(22,x0)],s):OR)) (get ρ 0) (get ρ 1):=zr
@[go_sem] theorem ae4:rc D b MJ ρ s=(fun v0 v1=>(aa (ab .gtr v1 (.int .i64 1099511627776)) fun x0=>some (.normal,[(0,v0),(1,v1),(22,x0)],s):OR)) (get ρ 0) (get ρ 1):=zr
@[go_sem] theorem agU:rc D b LG ρ s=(fun v0 v1=>(aa (ai v0) fun x0=>aa (ae 61 2 44 x0) fun x1=>aa (ae 44 0 10 x1) fun x2=>aa (ldv s 10 x2) fun x3=>aa (ab .geq x3 (.int .i64 1099511627776)) fun x4=>some (.normal,[(0,v0),(1,v1),(22,x4)],s):OR)) (get ρ 0) (get ρ 1):=zr
@[go_sem] theorem ade:rc D b Rc ρ s= some (.normal,[(4,(.int .i64 1))],s):=zr
@[go_sem] theorem agV:rc D b LR ρ s=(fun v0 v1=>(aa (ai v0) fun x0=>aa (ae 61 1 1 x0) fun x1=>aa (ldv s 1 x1) fun x2=>aa (rf D eB [x2] s) fun x3=>some (.normal,[(0,v0),(1,v1),(5,x3.1)],x3.2):OR)) (get ρ 0) (get ρ 1):=zr
@[go_sem] theorem ZR:rc D b LX ρ s=(fun v0 v1 v5=>(aa (ab .neq v5 (.int .i64 0)) fun x0=>some (.normal,[(0,v0),(1,v1),(5,v5),(39,x0)],s):OR)) (get ρ 0) (get ρ 1) (get ρ 5):=zr
@[go_sem] theorem afa:rc D b Jr ρ s=(fun v5=>(some (.normal,[(4,v5)],s):OR)) (get ρ 5):=zr
@[go_sem] theorem Xq:rc D b Cx ρ s=(fun v0 v1=>(aa (ai v0) fun x0=>aa (ae 61 1 1 x0) fun x1=>aa (ldv s 1 x1) fun x2=>aa (rf D dM [x2] s) fun x3=>aa (aF 0 x3.1) fun x4=>aa (aF 1 x3.1) fun _x5=>aa (ai v0) fun x6=>aa (ae 61 6 48 x6) fun x7=>aa (stv b x3.2 48 x4 x7) fun s8=>some (.normal,[(0,v0),(1,v1)],s8):OR)) (get ρ 0) (get ρ 1):=zr
@[go_sem] theorem Ya:rc D b Er ρ s=(fun v0 v1=>(aa (ai v0) fun x0=>aa (ae 61 1 1 x0) fun x1=>aa (ldv s 1 x1) fun x2=>aa (rf D em [x2] s) fun x3=>aa (aF 0 x3.1) fun x4=>aa (aF 1 x3.1) fun x5=>let x6:V:=.ptr (St.fresh x3.2 false) [] 48; let s6:St:=St.new x3.2 false (.agg 48 (List.replicate 49 (.agg 42 [(.int .i64 0),(.int .i64 0),(.int .i64 0)]))); let x7:V:=.ptr (St.fresh s6 false) [] 50; let s7:St:=St.new s6 false (.agg 50 (List.replicate 8 (.int .i64 0))); aa (stv b s7 48 x4 x6) fun s8=>aa (stv b s8 50 x5 x7) fun s9=>some (.normal,[(0,v0),(1,v1),(6,x6),(7,x7)],s9):OR)) (get ρ 0) (get ρ 1):=zr
@[go_sem] theorem XX:rc D b DO ρ s=(fun v0 v1 v6 v7=>(aa (ldv s 50 v7) fun x0=>aa (ai v0) fun x1=>aa (ae 61 5 10 x1) fun x2=>aa (oN b s 10 v1 x2 [v7]) fun s3=>aa (ai v0) fun x4=>aa (ae 61 7 50 x4) fun x5=>aa (stv b s3 50 x0 x5) fun s6=>some (.normal,[(0,v0),(6,v6)],s6):OR)) (get ρ 0) (get ρ 1) (get ρ 6) (get ρ 7):=zd
@[go_sem] theorem Xs:rc D b EB ρ s=(fun v0 v6=>(let x0:V:=.ptr (St.fresh s false) [] 82; let s0:St:=St.new s false (.agg 82 (List.replicate 1024 (.bool false))); some (.normal,[(0,v0),(6,v6),(8,x0)],s0):OR)) (get ρ 0) (get ρ 6):=zr
@[go_sem] theorem Xg:rc D b Eg ρ s=(fun v0 v6 v8=>(aa (ldv s 48 v6) fun x0=>some (.normal,[(0,v0),(6,v6),(8,v8),(68,x0),(69,(.int .i64 0))],s):OR)) (get ρ 0) (get ρ 6) (get ρ 8):=zr
@[go_sem] theorem XD:rc D b C7 ρ s=(fun v0 v6 v8 v68 v69=>(aa (ab .lss v69 (.int .i64 49)) fun x0=>some (.normal,[(0,v0),(6,v6),(8,v8),(68,v68),(69,v69),(70,x0)],s):OR)) (get ρ 0) (get ρ 6) (get ρ 8) (get ρ 68) (get ρ 69):=zr
@[go_sem] theorem XF:rc D b CJ ρ s=(fun v0 v6 v8 v68 v69=>(aa (ib 48 49 v68 v69) fun x0=>let x1:V:=.ptr (St.fresh s false) [] 42; let s1:St:=St.new s false (.agg 42 [(.int .i64 0),(.int .i64 0),(.int .i64 0)]); aa (stv b s1 42 x0 x1) fun s2=>some (.normal,[(0,v0),(6,v6),(8,v8),(10,x1),(68,v68),(69,v69)],s2):OR)) (get ρ 0) (get ρ 6) (get ρ 8) (get ρ 68) (get ρ 69):=zr
@[go_sem] theorem Ww:rc D b C1 ρ s=(fun v0 v6 v8 v10 v68 v69=>(aa (ae 42 0 10 v10) fun x0=>aa (ldv s 10 x0) fun x1=>aa (ab .neq x1 (.int .i64 0)) fun x2=>some (.normal,[(0,v0),(6,v6),(8,v8),(10,v10),(68,v68),(69,v69),(74,x2)],s):OR)) (get ρ 0) (get ρ 6) (get ρ 8) (get ρ 10) (get ρ 68) (get ρ 69):=zr
@[go_sem] theorem Wy:rc D b CG ρ s=(fun v0 v6 v8 v10 v68 v69=>(aa (ae 42 2 10 v10) fun x0=>aa (ldv s 10 x0) fun x1=>aa (aX 82 1024 0 v8 x1) fun x2=>aa (stv b s 0 (.bool true) x2) fun s3=>some (.normal,[(0,v0),(6,v6),(8,v8),(68,v68),(69,v69)],s3):OR)) (get ρ 0) (get ρ 6) (get ρ 8) (get ρ 10) (get ρ 68) (get ρ 69):=zr
@[go_sem] theorem Xf:rc D b CY ρ s=(fun v0 v6 v8 v68 v69=>(aa (ab .add v69 (.int .i64 1)) fun x0=>some (.normal,[(0,v0),(6,v6),(8,v8),(68,v68),(69,x0)],s):OR)) (get ρ 0) (get ρ 6) (get ρ 8) (get ρ 68) (get ρ 69):=zr
@[go_sem] theorem Xz:rc D b Eb ρ s=(fun v0 v6 v8=>(aa (ai v0) fun x0=>aa (ae 61 6 48 x0) fun x1=>aa (ldv s 48 x1) fun x2=>some (.normal,[(0,v0),(6,v6),(8,v8),(82,x2),(83,(.int .i64 0))],s):OR)) (get ρ 0) (get ρ 6) (get ρ 8):=zr
@[go_sem] theorem XH:rc D b CE ρ s=(fun v0 v6 v8 v82 v83=>(aa (ab .lss v83 (.int .i64 49)) fun x0=>some (.normal,[(0,v0),(6,v6),(8,v8),(82,v82),(83,v83),(84,x0)],s):OR)) (get ρ 0) (get ρ 6) (get ρ 8) (get ρ 82) (get ρ 83):=zr
@[go_sem] theorem WZ:rc D b Dw ρ s=(fun v0 v6 v8 v82 v83=>(aa (ib 48 49 v82 v83) fun x0=>let x1:V:=.ptr (St.fresh s false) [] 42; let s1:St:=St.new s false (.agg 42 [(.int .i64 0),(.int .i64 0),(.int .i64 0)]); aa (stv b s1 42 x0 x1) fun s2=>some (.normal,[(0,v0),(6,v6),(8,v8),(12,x1),(82,v82),(83,v83)],s2):OR)) (get ρ 0) (get ρ 6) (get ρ 8) (get ρ 82) (get ρ 83):=zr
@[go_sem] theorem Xj:rc D b FB ρ s=(fun v0 v6 v8 v12 v82 v83=>(aa (ae 42 0 10 v12) fun x0=>aa (ldv s 10 x0) fun x1=>aa (ab .neq x1 (.int .i64 0)) fun x2=>ao x2 true (aa (ae 42 2 10 v12) fun x3=>aa (ldv s 10 x3) fun x4=>aa (aX 82 1024 0 v8 x4) fun x5=>aa (ldv s 0 x5) fun x6=>aa (vun .not x6) fun x7=>some (.normal,[(0,v0),(6,v6),(8,v8),(12,v12),(82,v82),(83,v83),(95,x7)],s)) (some (.normal,[(0,v0),(6,v6),(8,v8),(12,v12),(82,v82),(83,v83),(95,(.bool false))],s)) (none):OR)) (get ρ 0) (get ρ 6) (get ρ 8) (get ρ 12) (get ρ 82) (get ρ 83):=zr
@[go_sem] theorem XJ:rc D b E6 ρ s=(fun v0 v6 v8 v12 v82 v83=>(aa (ai v0) fun x0=>aa (ae 61 4 1 x0) fun x1=>aa (ldv s 1 x1) fun x2=>aa (ae 42 2 10 v12) fun x3=>aa (ldv s 10 x3) fun x4=>aa (aj [.nilf,(.int .i64 0)] [(0,(.fn bM [])),(1,x4)]) fun x5=>aa (nc false 63 47 1 (.agg 47 [.nilf,(.int .i64 0)]) s [(0,(.agg 47 x5))]) fun x6=>aa (aG b true 63 47 x2 x6.1 x6.2) fun x7=>aa (ai v0) fun x8=>aa (ae 61 4 1 x8) fun x9=>aa (stv b x7.2 1 x7.1 x9) fun s10=>some (.normal,[(0,v0),(6,v6),(8,v8),(82,v82),(83,v83)],s10):OR)) (get ρ 0) (get ρ 6) (get ρ 8) (get ρ 12) (get ρ 82) (get ρ 83):=zd
@[go_sem] theorem Yb:rc D b Dh ρ s=(fun v0 v6 v8 v82 v83=>(aa (ab .add v83 (.int .i64 1)) fun x0=>some (.normal,[(0,v0),(6,v6),(8,v8),(82,v82),(83,x0)],s):OR)) (get ρ 0) (get ρ 6) (get ρ 8) (get ρ 82) (get ρ 83):=zr
@[go_sem] theorem Xy:rc D b CP ρ s=(fun v0 v6=>(aa (ai v0) fun x0=>aa (ae 61 6 48 x0) fun x1=>aa (ldv s 48 x1) fun x2=>aa (ldv s 48 v6) fun x3=>aa (rf D jm [x2,x3] s) fun x4=>aa (V.slen false x4.1) fun x5=>some (.normal,[(0,v0),(114,x4.1),(115,(.int .i64 x5)),(116,(.int .i64 0))],x4.2):OR)) (get ρ 0) (get ρ 6):=zd
@[go_sem] theorem WW:rc D b ES ρ s=(fun v0 v114 v115 v116=>(aa (ab .lss v116 v115) fun x0=>some (.normal,[(0,v0),(114,v114),(115,v115),(116,v116),(117,x0)],s):OR)) (get ρ 0) (get ρ 114) (get ρ 115) (get ρ 116):=zr
@[go_sem] theorem Xv:rc D b Cs ρ s=(fun v0 v114 v115 v116=>(aa (ef 10 v114 v116) fun x0=>aa (ldv s 10 x0) fun x1=>some (.normal,[(0,v0),(14,x1),(114,v114),(115,v115),(116,v116)],s):OR)) (get ρ 0) (get ρ 114) (get ρ 115) (get ρ 116):=zr
@[go_sem] theorem Yf:rc D b Cp ρ s=(fun v0 v14 v114 v115 v116=>(aa (ai v0) fun x0=>aa (ae 61 4 1 x0) fun x1=>aa (ldv s 1 x1) fun x2=>aa (aj [.nilf,(.int .i64 0)] [(0,(.fn dD [])),(1,v14)]) fun x3=>aa (nc false 63 47 1 (.agg 47 [.nilf,(.int .i64 0)]) s [(0,(.agg 47 x3))]) fun x4=>aa (aG b true 63 47 x2 x4.1 x4.2) fun x5=>aa (ai v0) fun x6=>aa (ae 61 4 1 x6) fun x7=>aa (stv b x5.2 1 x5.1 x7) fun s8=>some (.normal,[(0,v0),(114,v114),(115,v115),(116,v116)],s8):OR)) (get ρ 0) (get ρ 14) (get ρ 114) (get ρ 115) (get ρ 116):=zr
@[go_sem] theorem WI:rc D b Fg ρ s=(fun v0 v114 v115 v116=>(aa (ab .add v116 (.int .i64 1)) fun x0=>some (.normal,[(0,v0),(114,v114),(115,v115),(116,x0)],s):OR)) (get ρ 0) (get ρ 114) (get ρ 115) (get ρ 116):=zr
@[go_sem] theorem Xi:rc D b Cw ρ s=(fun v0=>(aa (ai v0) fun x0=>aa (ae 61 4 1 x0) fun x1=>aa (ldv s 1 x1) fun x2=>aa (aj [.nilf,(.int .i64 0)] [(0,(.fn dC []))]) fun x3=>aa (aj [.nilf,(.int .i64 0)] [(0,(.fn dk []))]) fun x4=>aa (aj [.nilf,(.int .i64 0)] [(0,(.fn cP []))]) fun x5=>aa (nc false 63 47 3 (.agg 47 [.nilf,(.int .i64 0)]) s [(0,(.agg 47 x3)),(1,(.agg 47 x4)),(2,(.agg 47 x5))]) fun x6=>aa (aG b true 63 47 x2 x6.1 x6.2) fun x7=>aa (ai v0) fun x8=>aa (ae 61 4 1 x8) fun x9=>aa (stv b x7.2 1 x7.1 x9) fun s10=>some (.normal,[],s10):OR)) (get ρ 0):=zr
@[go_sem] theorem XE:rc D b Dy ρ s= some (.normal,[(4,(.int .i64 0))],s):=zr
@[go_sem] theorem adc:rc D b PO ρ s=(fun v0=>(some (.normal,[(0,v0)],s):OR)) (get ρ 0):=zr
@[go_sem] theorem adT:rc D b LB ρ s=(fun v0=>(aa (ai v0) fun x0=>aa (ae 61 4 1 x0) fun x1=>aa (ldv s 1 x1) fun x2=>aa (V.slen false x2) fun x3=>some (.normal,[(2,(.int .i64 x3))],s):OR)) (get ρ 0):=zr
@[go_sem] theorem afA:rc D b KW ρ s=(fun v0=>(some (.normal,[(0,v0)],s):OR)) (get ρ 0):=zr
@[go_sem] theorem afD:rc D b M0 ρ s=(fun v0=>(aa (ai v0) fun x0=>aa (ae 61 4 1 x0) fun x1=>aa (ldv s 1 x1) fun x2=>aa (V.slen false x2) fun x3=>aa (ab .eql (.int .i64 x3) (.int .i64 0)) fun x4=>some (.normal,[(0,v0),(11,x4)],s):OR)) (get ρ 0):=zr
@[go_sem] theorem ad6:rc D b Pw ρ s= some (.normal,[(2,(.bool false)),(3,(.int .i64 3))],s):=zr
@[go_sem] theorem Zk:rc D b OL ρ s=(fun v0=>(aa (ai v0) fun x0=>aa (ae 61 4 1 x0) fun x1=>aa (ldv s 1 x1) fun x2=>aa (ef 47 x2 (.int .i64 0)) fun x3=>aa (ldv s 47 x3) fun x4=>let x5:V:=.ptr (St.fresh s false) [] 47; let s5:St:=St.new s false (.agg 47 [.nilf,(.int .i64 0)]); aa (stv b s5 47 x4 x5) fun s6=>some (.normal,[(0,v0),(4,x5)],s6):OR)) (get ρ 0):=zr
@[go_sem] theorem afl:rc D b Kf ρ s=(fun v0 v4=>(aa (ae 47 0 1 v4) fun x0=>aa (ldv s 1 x0) fun x1=>aa (ae 47 1 10 v4) fun x2=>aa (ldv s 10 x2) fun x3=>aa (sF D [v0,x3] s x1) fun x4=>some (.normal,[(0,v0),(5,x4.1)],x4.2):OR)) (get ρ 0) (get ρ 4):=zr
@[go_sem] theorem abE:rc D b Ix ρ s=(fun v0 v5=>(some (.normal,[(0,v0),(5,v5),(24,v5)],s):OR)) (get ρ 0) (get ρ 5):=zr
@[go_sem] theorem aaN:rc D b Kl ρ s=(fun v0 v5 v24=>(aa (ab .eql v24 (.int .i64 0)) fun x0=>some (.normal,[(0,v0),(5,v5),(24,v24),(26,x0)],s):OR)) (get ρ 0) (get ρ 5) (get ρ 24):=zr
@[go_sem] theorem ado:rc D b La ρ s=(fun v0=>(aa (ai v0) fun x0=>aa (ae 61 4 1 x0) fun x1=>aa (ldv s 1 x1) fun x2=>aa (hJ 47 (some (.int .i64 1)) none none x2) fun x3=>aa (ai v0) fun x4=>aa (ae 61 4 1 x4) fun x5=>aa (stv b s 1 x3 x5) fun s6=>some (.normal,[(0,v0)],s6):OR)) (get ρ 0):=zr
@[go_sem] theorem aaL:rc D b Mb ρ s=(fun v0=>(aa (ai v0) fun x0=>aa (ae 61 4 1 x0) fun x1=>aa (ldv s 1 x1) fun x2=>aa (V.slen false x2) fun x3=>aa (ab .eql (.int .i64 x3) (.int .i64 0)) fun x4=>some (.normal,[(2,x4),(3,(.int .i64 0))],s):OR)) (get ρ 0):=zr
@[go_sem] theorem aeH:rc D b Oh ρ s=(fun v0 v5 v24=>(aa (ab .eql v24 (.int .i64 10)) fun x0=>some (.normal,[(0,v0),(5,v5),(42,x0)],s):OR)) (get ρ 0) (get ρ 5) (get ρ 24):=zr
@[go_sem] theorem Xd:rc D b Cz ρ s=(fun v0 v5=>(aa (ai v0) fun x0=>aa (ae 61 1 1 x0) fun x1=>aa (ldv s 1 x1) fun x2=>aa (rf D dZ [x2] s) fun x3=>some (.normal,[(0,v0),(5,v5)],x3.2):OR)) (get ρ 0) (get ρ 5):=zr
@[go_sem] theorem WR:rc D b Ej ρ s=(fun v0 v5=>(aa (ai v0) fun x0=>aa (ae 61 4 1 x0) fun x1=>aa (stv b s 1 .nils x1) fun s2=>some (.normal,[(5,v5)],s2):OR)) (get ρ 0) (get ρ 5):=zr
@[go_sem] theorem XR:rc D b EN ρ s=(fun v5=>(some (.normal,[(2,(.bool false)),(3,v5)],s):OR)) (get ρ 5):=zr
@[go_sem] theorem Yg:rc D b B6 ρ s=(fun v5=>(some (.normal,[(2,(.bool false)),(3,v5)],s):OR)) (get ρ 5):=zr
@[go_sem] theorem abH:rc D b QF ρ s=(fun v0=>(let x0:V:=.ptr (St.fresh s false) [] 48; let s0:St:=St.new s false (.agg 48 (List.replicate 49 (.agg 42 [(.int .i64 0),(.int .i64 0),(.int .i64 0)]))); some (.normal,[(0,v0),(2,x0)],s0):OR)) (get ρ 0):=zr
@[go_sem] theorem afn:rc D b N8 ρ s=(fun v0 v2=>(aa (ai v0) fun x0=>aa (ae 43 6 0 x0) fun x1=>aa (ldv s 0 x1) fun x2=>aa (vun .not x2) fun x3=>some (.normal,[(0,v0),(2,v2),(8,x3)],s):OR)) (get ρ 0) (get ρ 2):=zr
@[go_sem] theorem aag:rc D b Iz ρ s=(fun v2=>(aa (ldv s 48 v2) fun x0=>aa (stv b s 48 x0 v2) fun s1=>some (.normal,[(2,v2),(3,(.bool false))],s1):OR)) (get ρ 2):=zr
@[go_sem] theorem afp:rc D b Jg ρ s=(fun v0 v2=>(aa (ai v0) fun x0=>aa (ae 43 5 48 x0) fun x1=>aa (ldv s 48 x1) fun x2=>aa (stv b s 48 x2 v2) fun s3=>some (.normal,[(2,v2),(3,(.bool true))],s3):OR)) (get ρ 0) (get ρ 2):=zr
@[go_sem] theorem abL:rc D b ID ρ s=(fun v0 v1=>(let x0:V:=.ptr (St.fresh s false) [] 26; let s0:St:=St.new s false (.agg 26 [(.int .i64 0),(.int .i64 0),(.agg 24 (List.replicate 8 (.int .u64 0)))]); some (.normal,[(0,v0),(1,v1),(4,x0)],s0):OR)) (get ρ 0) (get ρ 1):=zr
@[go_sem] theorem abf:rc D b J7 ρ s=(fun v0 v1 v4=>(aa (rf D bj [v0,v1] s) fun x0=>some (.normal,[(0,v0),(1,v1),(4,v4),(6,x0.1)],x0.2):OR)) (get ρ 0) (get ρ 1) (get ρ 4):=zr
@[go_sem] theorem afV:rc D b KF ρ s=(fun v0 v1 v4 v6=>(aa (ab .neq v6 (.int .i64 0)) fun x0=>some (.normal,[(0,v0),(1,v1),(4,v4),(6,v6),(14,x0)],s):OR)) (get ρ 0) (get ρ 1) (get ρ 4) (get ρ 6):=zr
@[go_sem] theorem ac1:rc D b Pl ρ s=(fun v4 v6=>(aa (aj [(.int .i64 0),(.int .i64 0),(.agg 24 (List.replicate 8 (.int .u64 0)))] []) fun x0=>aa (stv b s 26 (.agg 26 x0) v4) fun s1=>some (.normal,[(4,v4),(5,v6)],s1):OR)) (get ρ 4) (get ρ 6):=zr
@[go_sem] theorem adI:rc D b LD ρ s=(fun v0 v1 v4=>(aa (ai v0) fun x0=>aa (ae 43 2 48 x0) fun x1=>aa (aX 48 49 42 x1 v1) fun x2=>aa (ldv s 42 x2) fun x3=>let x4:V:=.ptr (St.fresh s false) [] 42; let s4:St:=St.new s false (.agg 42 [(.int .i64 0),(.int .i64 0),(.int .i64 0)]); aa (stv b s4 42 x3 x4) fun s5=>some (.normal,[(0,v0),(4,v4),(7,x4)],s5):OR)) (get ρ 0) (get ρ 1) (get ρ 4):=zr
@[go_sem] theorem ag8:rc D b IM ρ s=(fun v0 v4 v7=>(aa (ai v0) fun x0=>aa (ae 43 0 1 x0) fun x1=>aa (ldv s 1 x1) fun x2=>aa (ae 42 2 10 v7) fun x3=>aa (ldv s 10 x3) fun x4=>aa (iO D (bc b [x2,x4]) b dn [x2,x4] s) fun x5=>aa (aF 0 x5) fun x6=>aa (aF 1 x5) fun x7=>let x8:V:=.ptr (St.fresh s false) [] 24; let s8:St:=St.new s false (.agg 24 (List.replicate 8 (.int .u64 0))); aa (stv b s8 24 x6 x8) fun s9=>some (.normal,[(4,v4),(7,v7),(8,x8),(9,x7)],s9):OR)) (get ρ 0) (get ρ 4) (get ρ 7):=zd
@[go_sem] theorem agh:rc D b NX ρ s=(fun v4 v7 v8 v9=>(aa (ab .neq v9 (.int .i64 0)) fun x0=>some (.normal,[(4,v4),(7,v7),(8,v8),(9,v9),(34,x0)],s):OR)) (get ρ 4) (get ρ 7) (get ρ 8) (get ρ 9):=zr
@[go_sem] theorem aeo:rc D b KT ρ s=(fun v4 v9=>(aa (aj [(.int .i64 0),(.int .i64 0),(.agg 24 (List.replicate 8 (.int .u64 0)))] []) fun x0=>aa (stv b s 26 (.agg 26 x0) v4) fun s1=>some (.normal,[(4,v4),(5,v9)],s1):OR)) (get ρ 4) (get ρ 9):=zr
@[go_sem] theorem ag7:rc D b Qu ρ s=(fun v4 v7 v8=>(aa (ae 42 0 10 v7) fun x0=>aa (ldv s 10 x0) fun x1=>aa (ae 42 1 10 v7) fun x2=>aa (ldv s 10 x2) fun x3=>aa (ldv s 24 v8) fun x4=>aa (aj [(.int .i64 0),(.int .i64 0),(.agg 24 (List.replicate 8 (.int .u64 0)))] [(0,x1),(1,x3),(2,x4)]) fun x5=>aa (stv b s 26 (.agg 26 x5) v4) fun s6=>some (.normal,[(4,v4),(5,(.int .i64 0))],s6):OR)) (get ρ 4) (get ρ 7) (get ρ 8):=zr
@[go_sem] theorem ZY:rc D b Nm ρ s=(fun v0=>(let x0:V:=.ptr (St.fresh s false) [] 44; let s0:St:=St.new s false (.agg 44 [(.int .i64 0),(.int .i64 0),(.int .i64 0),(.int .i64 0)]); some (.normal,[(0,v0),(2,x0)],s0):OR)) (get ρ 0):=zr
@[go_sem] theorem YZ:rc D b Jd ρ s=(fun v0 v2=>(aa (ai v0) fun x0=>aa (ae 61 2 44 x0) fun x1=>aa (ldv s 44 x1) fun x2=>aa (ai v0) fun x3=>aa (ae 61 3 10 x3) fun x4=>aa (uh s 10 x4 v0) fun x5=>aa (oN b s 44 x2 v2 [v0]) fun s6=>some (.normal,[(2,v2),(3,x5)],s6):OR)) (get ρ 0) (get ρ 2):=zd
@[go_sem] theorem Yn:rc D b Mf ρ s=(fun v0=>(some (.normal,[(0,v0)],s):OR)) (get ρ 0):=zr
@[go_sem] theorem abv:rc D b Kg ρ s=(fun v0=>(aa (V.slen false v0) fun x0=>aa (rf D mQ [(.int .i64 x0)] s) fun x1=>aa (aF 0 x1.1) fun x2=>aa (aF 1 x1.1) fun x3=>some (.normal,[(0,v0),(4,x2),(5,x3)],x1.2):OR)) (get ρ 0):=zr
@[go_sem] theorem agF:rc D b JY ρ s=(fun v0 v4 v5=>(aa (ab .neq v5 (.int .i64 0)) fun x0=>some (.normal,[(0,v0),(4,v4),(5,v5),(15,x0)],s):OR)) (get ρ 0) (get ρ 4) (get ρ 5):=zr
@[go_sem] theorem aa7:rc D b JM ρ s=(fun v5=>(some (.normal,[(2,.nilp),(3,v5)],s):OR)) (get ρ 5):=zr
@[go_sem] theorem acs:rc D b Ic ρ s=(fun v0 v4=>(aa (V.slen false v0) fun x0=>some (.normal,[(4,v4),(17,v0),(18,(.int .i64 x0)),(19,(.int .i64 0))],s):OR)) (get ρ 0) (get ρ 4):=zr
@[go_sem] theorem ae8:rc D b Qo ρ s=(fun v4 v17 v18 v19=>(aa (ab .lss v19 v18) fun x0=>some (.normal,[(4,v4),(17,v17),(18,v18),(19,v19),(20,x0)],s):OR)) (get ρ 4) (get ρ 17) (get ρ 18) (get ρ 19):=zr
@[go_sem] theorem Za:rc D b Nr ρ s=(fun v4 v17 v18 v19=>(aa (ef 24 v17 v19) fun x0=>aa (ldv s 24 x0) fun x1=>let x2:V:=.ptr (St.fresh s false) [] 24; let s2:St:=St.new s false (.agg 24 (List.replicate 8 (.int .u64 0))); aa (stv b s2 24 x1 x2) fun s3=>some (.normal,[(4,v4),(6,v19),(7,x2),(17,v17),(18,v18),(19,v19)],s3):OR)) (get ρ 4) (get ρ 17) (get ρ 18) (get ρ 19):=zr
@[go_sem] theorem ab4:rc D b KJ ρ s=(fun v4 v6 v7 v17 v18 v19=>(aa (ai v4) fun x0=>aa (ae 59 0 1 x0) fun x1=>aa (ldv s 1 x1) fun x2=>aa (ai v4) fun x3=>aa (ae 59 0 1 x3) fun x4=>aa (ldv s 1 x4) fun x5=>aa (ldv s 24 v7) fun x6=>aa (ldv s 24 v7) fun x7=>aa (ef 55 x2 v6) fun x8=>aa (ae 55 0 24 x8) fun x9=>aa (oN b s 24 x6 x9 [v7]) fun s10=>aa (ef 55 x5 v6) fun x11=>aa (ae 55 1 24 x11) fun x12=>aa (stv b s10 24 x7 x12) fun s13=>some (.normal,[(4,v4),(17,v17),(18,v18),(19,v19)],s13):OR)) (get ρ 4) (get ρ 6) (get ρ 7) (get ρ 17) (get ρ 18) (get ρ 19):=zd
@[go_sem] theorem ael:rc D b LT ρ s=(fun v4 v17 v18 v19=>(aa (ab .add v19 (.int .i64 1)) fun x0=>some (.normal,[(4,v4),(17,v17),(18,v18),(19,x0)],s):OR)) (get ρ 4) (get ρ 17) (get ρ 18) (get ρ 19):=zr
@[go_sem] theorem YN:rc D b Lj ρ s=(fun v4=>(some (.normal,[(2,v4),(3,(.int .i64 0))],s):OR)) (get ρ 4):=zr
@[go_sem] theorem aa5:rc D b JG ρ s=(fun v0 v1=>(some (.normal,[(0,v0),(1,v1)],s):OR)) (get ρ 0) (get ρ 1):=zr
@[go_sem] theorem ad4:rc D b PY ρ s=(fun v0 v1=>(aa (tu true 58 24 (.agg 24 (List.replicate 8 (.int .u64 0))) s v0 v0) fun x0=>some (.normal,[(1,v1),(5,x0.1)],x0.2):OR)) (get ρ 0) (get ρ 1):=zr
@[go_sem] theorem aej:rc D b NS ρ s=(fun v1 v5=>(aa (rf D bK [v1] s) fun x0=>let x1:V:=.ptr (St.fresh x0.2 false) [] 48; let s1:St:=St.new x0.2 false (.agg 48 (List.replicate 49 (.agg 42 [(.int .i64 0),(.int .i64 0),(.int .i64 0)]))); aa (stv b s1 48 x0.1 x1) fun s2=>some (.normal,[(5,v5),(6,x1)],s2):OR)) (get ρ 1) (get ρ 5):=zr
@[go_sem] theorem abC:rc D b MF ρ s=(fun v5 v6=>(aa (aj (List.replicate 7 (.int .i64 0)) []) fun x0=>let x1:V:=.ptr (St.fresh s false) [] 60; let s1:St:=St.new s false (.agg 60 (List.replicate 7 (.int .i64 0))); aa (stv b s1 60 (.agg 60 x0) x1) fun s2=>some (.normal,[(5,v5),(6,v6),(7,x1)],s2):OR)) (get ρ 5) (get ρ 6):=zr
@[go_sem] theorem abc:rc D b Qg ρ s=(fun v5 v6 v7=>(some (.normal,[(5,v5),(6,v6),(7,v7),(8,(.int .i64 0))],s):OR)) (get ρ 5) (get ρ 6) (get ρ 7):=zr
@[go_sem] theorem aev:rc D b MR ρ s=(fun v5 v6 v7 v8=>(aa (ab .lss v8 (.int .i64 7)) fun x0=>some (.normal,[(5,v5),(6,v6),(7,v7),(8,v8),(15,x0)],s):OR)) (get ρ 5) (get ρ 6) (get ρ 7) (get ρ 8):=zr
@[go_sem] theorem agi:rc D b Qf ρ s=(fun v5 v6 v7 v8=>(aa (ab .add (.int .i64 10) v8) fun x0=>aa (ldv s 48 v6) fun x1=>aa (rf D dW [x1,v8] s) fun x2=>aa (aF 0 x2.1) fun x3=>aa (aF 1 x2.1) fun _x4=>aa (ef 24 v5 x0) fun x5=>aa (stv b x2.2 24 x3 x5) fun s6=>some (.normal,[(5,v5),(6,v6),(7,v7),(8,v8)],s6):OR)) (get ρ 5) (get ρ 6) (get ρ 7) (get ρ 8):=zr
@[go_sem] theorem afM:rc D b Kv ρ s=(fun v5 v6 v7 v8=>(aa (ab .add (.int .i64 10) v8) fun x0=>aa (aX 60 7 10 v7 v8) fun x1=>aa (stv b s 10 x0 x1) fun s2=>some (.normal,[(5,v5),(6,v6),(7,v7),(8,v8)],s2):OR)) (get ρ 5) (get ρ 6) (get ρ 7) (get ρ 8):=zr
@[go_sem] theorem adr:rc D b M4 ρ s=(fun v5 v6 v7 v8=>(aa (ab .add v8 (.int .i64 1)) fun x0=>some (.normal,[(5,v5),(6,v6),(7,v7),(8,x0)],s):OR)) (get ρ 5) (get ρ 6) (get ρ 7) (get ρ 8):=zr
@[go_sem] theorem aan:rc D b PS ρ s=(fun v5 v7=>(aa (ldv s 60 v7) fun x0=>aa (rf D dV [x0] s) fun x1=>aa (aF 0 x1.1) fun x2=>aa (aF 1 x1.1) fun _x3=>aa (ef 24 v5 (.int .i64 17)) fun x4=>aa (stv b x1.2 24 x2 x4) fun s5=>some (.normal,[(5,v5)],s5):OR)) (get ρ 5) (get ρ 7):=zr
@[go_sem] theorem XY:rc D b C9 ρ s=(fun v5=>(some (.normal,[(4,v5)],s):OR)) (get ρ 5):=zr
@[go_sem] theorem agu:rc D b LE ρ s=(fun v0 v1 v2 v3=>(if V.ok v2 && ap false v2 then let x0:V:=.ptr (St.fresh s false) [] (V.tag v2); let s0:St:=St.new s false v2; if V.ok v3 && ap false v3 then let x1:V:=.ptr (St.fresh s0 false) [] (V.tag v3); let s1:St:=St.new s0 false v3; some (.normal,[(0,v0),(1,v1),(6,x0),(7,x1)],s1) else none else none:OR)) (get ρ 0) (get ρ 1) (get ρ 2) (get ρ 3):=zr
@[go_sem] theorem ZH:rc D b KH ρ s=(fun v0 v1 v6 v7=>(aa (rf D bB [v0] s) fun x0=>aa (rf D gT [v1,x0.1] x0.2) fun x1=>aa (aF 0 x1.1) fun x2=>aa (aF 1 x1.1) fun x3=>some (.normal,[(0,v0),(6,v6),(7,v7),(10,x2),(11,x3)],x1.2):OR)) (get ρ 0) (get ρ 1) (get ρ 6) (get ρ 7):=zr
@[go_sem] theorem acV:rc D b JT ρ s=(fun v0 v6 v7 v10 v11=>(aa (ab .neq v11 (.int .i64 0)) fun x0=>some (.normal,[(0,v0),(6,v6),(7,v7),(10,v10),(11,v11),(25,x0)],s):OR)) (get ρ 0) (get ρ 6) (get ρ 7) (get ρ 10) (get ρ 11):=zr
@[go_sem] theorem acv:rc D b IY ρ s=(fun v11=>(some (.normal,[(8,.nilp),(9,v11)],s):OR)) (get ρ 11):=zr
@[go_sem] theorem aex:rc D b Qp ρ s=(fun v0 v6 v7 v10=>(aa (ldv s 48 v6) fun x0=>aa (ldv s 48 v6) fun x1=>aa (ldv s 50 v7) fun x2=>aa (aj [.nilp,.nilp,(.agg 48 (List.replicate 49 (.agg 42 [(.int .i64 0),(.int .i64 0),(.int .i64 0)]))),(.agg 48 (List.replicate 49 (.agg 42 [(.int .i64 0),(.int .i64 0),(.int .i64 0)]))),(.agg 50 (List.replicate 8 (.int .i64 0))),(.agg 48 (List.replicate 49 (.agg 42 [(.int .i64 0),(.int .i64 0),(.int .i64 0)]))),(.bool false),(.agg 82 (List.replicate 1024 (.bool false)))] [(0,v0),(1,v10),(2,x0),(3,x1),(4,x2)]) fun x3=>if V.ok (.agg 43 x3) && ap true (.agg 43 x3) then let x4:V:=.ptr (St.fresh s true) [] (V.tag (.agg 43 x3)); let s4:St:=St.new s true (.agg 43 x3); some (.normal,[(6,v6),(7,v7),(10,v10),(12,x4)],s4) else none:OR)) (get ρ 0) (get ρ 6) (get ρ 7) (get ρ 10):=zr
@[go_sem] theorem ad8:rc D b QR ρ s=(fun v6 v7 v10 v12=>(aa (ldv s 48 v6) fun x0=>some (.normal,[(7,v7),(10,v10),(12,v12),(34,x0),(35,(.int .i64 0))],s):OR)) (get ρ 6) (get ρ 7) (get ρ 10) (get ρ 12):=zr
@[go_sem] theorem aeU:rc D b Jl ρ s=(fun v7 v10 v12 v34 v35=>(aa (ab .lss v35 (.int .i64 49)) fun x0=>some (.normal,[(7,v7),(10,v10),(12,v12),(34,v34),(35,v35),(36,x0)],s):OR)) (get ρ 7) (get ρ 10) (get ρ 12) (get ρ 34) (get ρ 35):=zr
@[go_sem] theorem af1:rc D b QM ρ s=(fun v7 v10 v12 v34 v35=>(aa (ib 48 49 v34 v35) fun x0=>let x1:V:=.ptr (St.fresh s false) [] 42; let s1:St:=St.new s false (.agg 42 [(.int .i64 0),(.int .i64 0),(.int .i64 0)]); aa (stv b s1 42 x0 x1) fun s2=>some (.normal,[(7,v7),(10,v10),(12,v12),(14,x1),(34,v34),(35,v35)],s2):OR)) (get ρ 7) (get ρ 10) (get ρ 12) (get ρ 34) (get ρ 35):=zr
@[go_sem] theorem adh:rc D b Jo ρ s=(fun v7 v10 v12 v14 v34 v35=>(aa (ae 42 0 10 v14) fun x0=>aa (ldv s 10 x0) fun x1=>aa (ab .neq x1 (.int .i64 0)) fun x2=>ao x2 true (aa (ae 42 2 10 v14) fun x3=>aa (ldv s 10 x3) fun x4=>aa (rf D bF [v10,x4] s) fun x5=>aa (ab .neq x5.1 (.int .i64 0)) fun x6=>some (.normal,[(7,v7),(10,v10),(12,v12),(34,v34),(35,v35),(47,x6)],x5.2)) (some (.normal,[(7,v7),(10,v10),(12,v12),(34,v34),(35,v35),(47,(.bool false))],s)) (none):OR)) (get ρ 7) (get ρ 10) (get ρ 12) (get ρ 14) (get ρ 34) (get ρ 35):=zr
@[go_sem] theorem aeb:rc D b JD ρ s= some (.normal,[(8,.nilp),(9,(.int .i64 21))],s):=zr
@[go_sem] theorem Xn:rc D b Ci ρ s=(fun v7 v10 v12 v34 v35=>(aa (ab .add v35 (.int .i64 1)) fun x0=>some (.normal,[(7,v7),(10,v10),(12,v12),(34,v34),(35,x0)],s):OR)) (get ρ 7) (get ρ 10) (get ρ 12) (get ρ 34) (get ρ 35):=zr
@[go_sem] theorem Yi:rc D b Da ρ s=(fun v7 v10 v12=>(aa (ldv s 50 v7) fun x0=>some (.normal,[(10,v10),(12,v12),(49,x0),(50,(.int .i64 0))],s):OR)) (get ρ 7) (get ρ 10) (get ρ 12):=zr
@[go_sem] theorem Xh:rc D b DC ρ s=(fun v10 v12 v49 v50=>(aa (ab .lss v50 (.int .i64 8)) fun x0=>some (.normal,[(10,v10),(12,v12),(49,v49),(50,v50),(51,x0)],s):OR)) (get ρ 10) (get ρ 12) (get ρ 49) (get ρ 50):=zr
@[go_sem] theorem WT:rc D b Cd ρ s=(fun v10 v12 v49 v50=>(aa (ib 50 8 v49 v50) fun x0=>some (.normal,[(10,v10),(12,v12),(16,x0),(49,v49),(50,v50)],s):OR)) (get ρ 10) (get ρ 12) (get ρ 49) (get ρ 50):=zr
@[go_sem] theorem Xw:rc D b Dm ρ s=(fun v10 v12 v16 v49 v50=>(aa (rf D bF [v10,v16] s) fun x0=>aa (ab .neq x0.1 (.int .i64 0)) fun x1=>some (.normal,[(10,v10),(12,v12),(49,v49),(50,v50),(56,x1)],x0.2):OR)) (get ρ 10) (get ρ 12) (get ρ 16) (get ρ 49) (get ρ 50):=zr
@[go_sem] theorem WG:rc D b BW ρ s= some (.normal,[(8,.nilp),(9,(.int .i64 21))],s):=zr
@[go_sem] theorem Xe:rc D b Eh ρ s=(fun v10 v12 v49 v50=>(aa (ab .add v50 (.int .i64 1)) fun x0=>some (.normal,[(10,v10),(12,v12),(49,v49),(50,x0)],s):OR)) (get ρ 10) (get ρ 12) (get ρ 49) (get ρ 50):=zr
@[go_sem] theorem Xt:rc D b Fu ρ s=(fun v12=>(aa (rf D bi [v12] s) fun x0=>some (.normal,[(12,v12)],x0.2):OR)) (get ρ 12):=zr
@[go_sem] theorem WU:rc D b Dc ρ s=(fun v12=>(some (.normal,[(8,v12),(9,(.int .i64 0))],s):OR)) (get ρ 12):=zr
@[go_sem] theorem aby:rc D b Jc ρ s=(fun v0=>(let x0:V:=.ptr (St.fresh s false) [] 48; let s0:St:=St.new s false (.agg 48 (List.replicate 49 (.agg 42 [(.int .i64 0),(.int .i64 0),(.int .i64 0)]))); some (.normal,[(0,v0),(2,x0)],s0):OR)) (get ρ 0):=zr
@[go_sem] theorem aeF:rc D b OP ρ s=(fun v0 v2=>(aa (aj (List.replicate 49 (.agg 42 [(.int .i64 0),(.int .i64 0),(.int .i64 0)])) []) fun x0=>let x1:V:=.ptr (St.fresh s false) [] 48; let s1:St:=St.new s false (.agg 48 (List.replicate 49 (.agg 42 [(.int .i64 0),(.int .i64 0),(.int .i64 0)]))); aa (stv b s1 48 (.agg 48 x0) x1) fun s2=>some (.normal,[(0,v0),(2,v2),(3,x1)],s2):OR)) (get ρ 0) (get ρ 2):=zr
@[go_sem] theorem ab7:rc D b O8 ρ s=(fun v0 v2 v3=>(some (.normal,[(0,v0),(2,v2),(3,v3),(4,(.int .i64 0))],s):OR)) (get ρ 0) (get ρ 2) (get ρ 3):=zr
@[go_sem] theorem acm:rc D b MN ρ s=(fun v0 v2 v3 v4=>(aa (ab .lss v4 v0) fun x0=>ao x0 true (aa (ab .lss v4 (.int .i64 49)) fun x1=>some (.normal,[(0,v0),(2,v2),(3,v3),(4,v4),(12,x1)],s)) (some (.normal,[(0,v0),(2,v2),(3,v3),(4,v4),(12,(.bool false))],s)) (none):OR)) (get ρ 0) (get ρ 2) (get ρ 3) (get ρ 4):=zr
@[go_sem] theorem acU:rc D b Lq ρ s=(fun v0 v2 v3 v4=>(aa (ab .rem v4 (.int .i64 4)) fun x0=>aa (ab .add (.int .i64 1) x0) fun x1=>aa (ab .add (.int .i64 20) v4) fun x2=>aa (aj [(.int .i64 0),(.int .i64 0),(.int .i64 0)] [(0,x1),(1,v4),(2,x2)]) fun x3=>aa (aX 48 49 42 v3 v4) fun x4=>aa (stv b s 42 (.agg 42 x3) x4) fun s5=>some (.normal,[(0,v0),(2,v2),(3,v3),(4,v4)],s5):OR)) (get ρ 0) (get ρ 2) (get ρ 3) (get ρ 4):=zr
@[go_sem] theorem afk:rc D b Lk ρ s=(fun v0 v2 v3 v4=>(aa (ab .add v4 (.int .i64 1)) fun x0=>some (.normal,[(0,v0),(2,v2),(3,v3),(4,x0)],s):OR)) (get ρ 0) (get ρ 2) (get ρ 3) (get ρ 4):=zr
@[go_sem] theorem Yy:rc D b Nj ρ s=(fun v2 v3=>(aa (ldv s 48 v3) fun x0=>aa (stv b s 48 x0 v2) fun s1=>some (.normal,[(2,v2)],s1):OR)) (get ρ 2) (get ρ 3):=zr
@[go_sem] theorem ad5:rc D b Mm ρ s=(fun v0 v1 v2 v3=>(if V.ok v2 && ap false v2 then let x0:V:=.ptr (St.fresh s false) [] (V.tag v2); let s0:St:=St.new s false v2; some (.normal,[(0,v0),(1,v1),(3,v3),(6,x0)],s0) else none:OR)) (get ρ 0) (get ρ 1) (get ρ 2) (get ρ 3):=zr
@[go_sem] theorem aaD:rc D b Ou ρ s=(fun v0 v1 v3 v6=>(aa (ldv s 44 v6) fun x0=>aa (aj [.nilp,.nilp,(.agg 44 [(.int .i64 0),(.int .i64 0),(.int .i64 0),(.int .i64 0)]),(.int .i64 0),.nils,(.int .i64 0),(.agg 48 (List.replicate 49 (.agg 42 [(.int .i64 0),(.int .i64 0),(.int .i64 0)]))),(.agg 50 (List.replicate 8 (.int .i64 0)))] [(0,v0),(1,v1),(2,x0),(3,v3)]) fun x1=>if V.ok (.agg 61 x1) && ap true (.agg 61 x1) then let x2:V:=.ptr (St.fresh s true) [] (V.tag (.agg 61 x1)); let s2:St:=St.new s true (.agg 61 x1); some (.normal,[(8,x2)],s2) else none:OR)) (get ρ 0) (get ρ 1) (get ρ 3) (get ρ 6):=zr
@[go_sem] theorem ZL:rc D b Qv ρ s= let x0:V:=.ptr (St.fresh s false) [] 44; let s0:St:=St.new s false (.agg 44 [(.int .i64 0),(.int .i64 0),(.int .i64 0),(.int .i64 0)]); some (.normal,[(0,x0)],s0):=zr
@[go_sem] theorem YI:rc D b LH ρ s=(fun v0=>(aa (aj [(.int .i64 0),(.int .i64 0),(.int .i64 0),(.int .i64 0)] [(0,(.int .i64 1)),(1,(.int .i64 17)),(2,(.int .i64 0)),(3,(.int .i64 1))]) fun x0=>aa (stv b s 44 (.agg 44 x0) v0) fun s1=>some (.normal,[(0,v0)],s1):OR)) (get ρ 0):=zr
@[go_sem] theorem aay:rc D b Jb ρ s=(fun v0 v1 v2 v3=>(some (.normal,[(0,v0),(1,v1),(2,v2),(3,v3)],s):OR)) (get ρ 0) (get ρ 1) (get ρ 2) (get ρ 3):=zr
@[go_sem] theorem aeD:rc D b P3 ρ s=(fun v0 v1 v2 v3=>(aa (rf D bj [v0,v1] s) fun x0=>some (.normal,[(0,v0),(1,v1),(2,v2),(3,v3),(9,x0.1)],x0.2):OR)) (get ρ 0) (get ρ 1) (get ρ 2) (get ρ 3):=zr
@[go_sem] theorem aaX:rc D b Je ρ s=(fun v0 v1 v2 v3 v9=>(aa (ab .eql v9 (.int .i64 1)) fun x0=>some (.normal,[(0,v0),(1,v1),(2,v2),(3,v3),(9,v9),(15,x0)],s):OR)) (get ρ 0) (get ρ 1) (get ρ 2) (get ρ 3) (get ρ 9):=zr
@[go_sem] theorem agD:rc D b PV ρ s=(fun v0 v1 v2 v3 v9=>(aa (ab .lss v2 (.int .i64 0)) fun x0=>some (.normal,[(0,v0),(1,v1),(2,v2),(3,v3),(9,v9),(15,x0)],s):OR)) (get ρ 0) (get ρ 1) (get ρ 2) (get ρ 3) (get ρ 9):=zr
@[go_sem] theorem abP:rc D b OD ρ s=(fun v0 v1 v2 v3 v9=>(aa (ab .geq v2 (.int .i64 8)) fun x0=>some (.normal,[(0,v0),(1,v1),(2,v2),(3,v3),(9,v9),(15,x0)],s):OR)) (get ρ 0) (get ρ 1) (get ρ 2) (get ρ 3) (get ρ 9):=zr
@[go_sem] theorem aeL:rc D b JW ρ s= some (.normal,[(8,(.int .i64 1))],s):=zr
@[go_sem] theorem adi:rc D b Rd ρ s=(fun v0 v1 v2 v3 v9=>(aa (ab .neq v9 (.int .i64 0)) fun x0=>some (.normal,[(0,v0),(1,v1),(2,v2),(3,v3),(9,v9),(22,x0)],s):OR)) (get ρ 0) (get ρ 1) (get ρ 2) (get ρ 3) (get ρ 9):=zr
@[go_sem] theorem YJ:rc D b Jn ρ s=(fun v9=>(some (.normal,[(8,v9)],s):OR)) (get ρ 9):=zr
@[go_sem] theorem aa1:rc D b Rf ρ s=(fun v0 v1 v2 v3=>(aa (rf D bP [v0,v1] s) fun x0=>some (.normal,[(0,v0),(1,v1),(2,v2),(3,v3),(26,x0.1)],x0.2):OR)) (get ρ 0) (get ρ 1) (get ρ 2) (get ρ 3):=zr
@[go_sem] theorem acq:rc D b KC ρ s=(fun v0 v1 v2 v3=>(aa (ai v0) fun x0=>aa (ae 43 0 1 x0) fun x1=>aa (ldv s 1 x1) fun x2=>aa (ai v0) fun x3=>aa (ae 43 2 48 x3) fun x4=>aa (aX 48 49 42 x4 v1) fun x5=>aa (ae 42 2 10 x5) fun x6=>aa (ldv s 10 x6) fun x7=>aa (rf D aV [x2,x7,v2,v3] s) fun x8=>some (.normal,[(8,x8.1)],x8.2):OR)) (get ρ 0) (get ρ 1) (get ρ 2) (get ρ 3):=zd
@[go_sem] theorem WL:rc D b Ez ρ s=(fun v0 v1 v2 v3=>(aa (ai v0) fun x0=>aa (ae 43 1 1 x0) fun x1=>aa (ldv s 1 x1) fun x2=>aa (rf D dh [x2] s) fun x3=>aa (ab .eql x3.1 (.int .i64 0)) fun x4=>some (.normal,[(0,v0),(1,v1),(2,v2),(3,v3),(44,x4)],x3.2):OR)) (get ρ 0) (get ρ 1) (get ρ 2) (get ρ 3):=zr
@[go_sem] theorem Xk:rc D b DE ρ s= some (.normal,[(8,(.int .i64 10))],s):=zr
@[go_sem] theorem Xu:rc D b E9 ρ s=(fun v0 v1 v2 v3=>(aa (ai v0) fun x0=>aa (ae 43 0 1 x0) fun x1=>aa (ldv s 1 x1) fun x2=>aa (ai v0) fun x3=>aa (ae 43 2 48 x3) fun x4=>aa (aX 48 49 42 x4 v1) fun x5=>aa (ae 42 2 10 x5) fun x6=>aa (ldv s 10 x6) fun x7=>aa (iO D (bc b [x2,x7]) b dn [x2,x7] s) fun x8=>aa (aF 0 x8) fun x9=>aa (aF 1 x8) fun x10=>let x11:V:=.ptr (St.fresh s false) [] 24; let s11:St:=St.new s false (.agg 24 (List.replicate 8 (.int .u64 0))); aa (stv b s11 24 x9 x11) fun s12=>some (.normal,[(0,v0),(1,v1),(2,v2),(3,v3),(9,x10),(10,x11)],s12):OR)) (get ρ 0) (get ρ 1) (get ρ 2) (get ρ 3):=zd
@[go_sem] theorem Xl:rc D b C5 ρ s=(fun v0 v1 v2 v3 v9 v10=>(aa (ab .neq v9 (.int .i64 0)) fun x0=>some (.normal,[(0,v0),(1,v1),(2,v2),(3,v3),(9,v9),(10,v10),(67,x0)],s):OR)) (get ρ 0) (get ρ 1) (get ρ 2) (get ρ 3) (get ρ 9) (get ρ 10):=zr
@[go_sem] theorem XA:rc D b Ch ρ s=(fun v9=>(some (.normal,[(8,v9)],s):OR)) (get ρ 9):=zr
@[go_sem] theorem XN:rc D b CD ρ s=(fun v0 v1 v2 v3 v10=>(aa (aX 24 8 18 v10 v2) fun x0=>aa (stv b s 18 v3 x0) fun s1=>some (.normal,[(0,v0),(1,v1),(10,v10)],s1):OR)) (get ρ 0) (get ρ 1) (get ρ 2) (get ρ 3) (get ρ 10):=zr
@[go_sem] theorem WH:rc D b EV ρ s=(fun v0 v1 v10=>(aa (ldv s 24 v10) fun x0=>aa (rf D cD [v0,x0] s) fun x1=>aa (aF 0 x1.1) fun x2=>aa (aF 1 x1.1) fun x3=>some (.normal,[(0,v0),(1,v1),(9,x3),(11,x2)],x1.2):OR)) (get ρ 0) (get ρ 1) (get ρ 10):=zr
@[go_sem] theorem WB:rc D b Fq ρ s=(fun v0 v1 v9 v11=>(aa (ab .neq v9 (.int .i64 0)) fun x0=>some (.normal,[(0,v0),(1,v1),(9,v9),(11,v11),(79,x0)],s):OR)) (get ρ 0) (get ρ 1) (get ρ 9) (get ρ 11):=zr
@[go_sem] theorem WM:rc D b DA ρ s=(fun v9=>(some (.normal,[(8,v9)],s):OR)) (get ρ 9):=zr
@[go_sem] theorem Xx:rc D b Ey ρ s=(fun v0 v1 v11=>(aa (ai v0) fun x0=>aa (ae 43 2 48 x0) fun x1=>aa (aX 48 49 42 x1 v1) fun x2=>aa (ae 42 2 10 x2) fun x3=>aa (stv b s 10 v11 x3) fun s4=>some (.normal,[],s4):OR)) (get ρ 0) (get ρ 1) (get ρ 11):=zr
@[go_sem] theorem WJ:rc D b Ew ρ s= some (.normal,[(8,(.int .i64 0))],s):=zr
@[go_sem] theorem YG:rc D b Im ρ s=(fun v0 v1=>(some (.normal,[(0,v0),(1,v1)],s):OR)) (get ρ 0) (get ρ 1):=zr
@[go_sem] theorem ac9:rc D b PH ρ s=(fun v0 v1=>(aa (rf D cW [v0,v1] s) fun x0=>aa (aF 0 x0.1) fun x1=>aa (aF 1 x0.1) fun x2=>aa (aF 2 x0.1) fun x3=>some (.normal,[(0,v0),(1,v1),(6,x1),(7,x2),(8,x3)],x0.2):OR)) (get ρ 0) (get ρ 1):=zr
@[go_sem] theorem adH:rc D b Po ρ s=(fun v0 v1 v6 v7 v8=>(aa (ab .neq v8 (.int .i64 0)) fun x0=>some (.normal,[(0,v0),(1,v1),(6,v6),(7,v7),(8,v8),(18,x0)],s):OR)) (get ρ 0) (get ρ 1) (get ρ 6) (get ρ 7) (get ρ 8):=zr
@[go_sem] theorem ac8:rc D b Q4 ρ s=(fun v8=>(some (.normal,[(4,(.int .i64 0)),(5,v8)],s):OR)) (get ρ 8):=zr
@[go_sem] theorem aal:rc D b Nu ρ s=(fun v0 v1 v6 v7=>(aa (aj (List.replicate 8 (.int .u64 0)) []) fun x0=>aa (rf D cD [v0,(.agg 24 x0)] s) fun x1=>aa (aF 0 x1.1) fun x2=>aa (aF 1 x1.1) fun x3=>some (.normal,[(0,v0),(1,v1),(6,v6),(7,v7),(8,x3),(9,x2)],x1.2):OR)) (get ρ 0) (get ρ 1) (get ρ 6) (get ρ 7):=zr
@[go_sem] theorem ady:rc D b Lz ρ s=(fun v0 v1 v6 v7 v8 v9=>(aa (ab .neq v8 (.int .i64 0)) fun x0=>some (.normal,[(0,v0),(1,v1),(6,v6),(7,v7),(8,v8),(9,v9),(27,x0)],s):OR)) (get ρ 0) (get ρ 1) (get ρ 6) (get ρ 7) (get ρ 8) (get ρ 9):=zr
@[go_sem] theorem aet:rc D b Nc ρ s=(fun v8=>(some (.normal,[(4,(.int .i64 0)),(5,v8)],s):OR)) (get ρ 8):=zr
@[go_sem] theorem abh:rc D b Lf ρ s=(fun v0 v1 v6 v7 v9=>(aa (aj [(.int .i64 0),(.int .i64 0),(.int .i64 0)] [(0,v1),(1,v7),(2,v9)]) fun x0=>aa (ai v0) fun x1=>aa (ae 43 2 48 x1) fun x2=>aa (aX 48 49 42 x2 v6) fun x3=>aa (stv b s 42 (.agg 42 x0) x3) fun s4=>some (.normal,[(6,v6)],s4):OR)) (get ρ 0) (get ρ 1) (get ρ 6) (get ρ 7) (get ρ 9):=zr
@[go_sem] theorem acL:rc D b Pk ρ s=(fun v6=>(some (.normal,[(4,v6),(5,(.int .i64 0))],s):OR)) (get ρ 6):=zr
@[go_sem] theorem aeu:rc D b J8 ρ s=(fun v0 v1=>(some (.normal,[(0,v0),(1,v1)],s):OR)) (get ρ 0) (get ρ 1):=zr
@[go_sem] theorem acz:rc D b Jm ρ s=(fun v0 v1=>(aa (rf D bj [v0,v1] s) fun x0=>some (.normal,[(0,v0),(1,v1),(5,x0.1)],x0.2):OR)) (get ρ 0) (get ρ 1):=zr
@[go_sem] theorem agt:rc D b Mi ρ s=(fun v0 v1 v5=>(aa (ab .neq v5 (.int .i64 0)) fun x0=>some (.normal,[(0,v0),(1,v1),(5,v5),(10,x0)],s):OR)) (get ρ 0) (get ρ 1) (get ρ 5):=zr
@[go_sem] theorem acG:rc D b IC ρ s=(fun v5=>(some (.normal,[(4,v5)],s):OR)) (get ρ 5):=zr
@[go_sem] theorem aat:rc D b N3 ρ s=(fun v0 v1=>(aa (rf D bP [v0,v1] s) fun x0=>some (.normal,[(0,v0),(1,v1),(14,x0.1)],x0.2):OR)) (get ρ 0) (get ρ 1):=zr
@[go_sem] theorem adA:rc D b I9 ρ s=(fun v0 v1=>(aa (ai v0) fun x0=>aa (ae 43 1 1 x0) fun x1=>aa (ldv s 1 x1) fun x2=>aa (ai v0) fun x3=>aa (ae 43 2 48 x3) fun x4=>aa (aX 48 49 42 x4 v1) fun x5=>aa (ae 42 2 10 x5) fun x6=>aa (ldv s 10 x6) fun x7=>aa (rf D cj [x2,x7] s) fun x8=>some (.normal,[(0,v0),(1,v1)],x8.2):OR)) (get ρ 0) (get ρ 1):=zd
@[go_sem] theorem ZK:rc D b Rl ρ s=(fun v0 v1=>(aa (ai v0) fun x0=>aa (ae 43 2 48 x0) fun x1=>aa (aX 48 49 42 x1 v1) fun x2=>aa (ldv s 42 x2) fun x3=>aa (iO D (bc b [x3]) b kQ [x3] s) fun x4=>aa (aF 0 x4) fun x5=>aa (aF 1 x4) fun _x6=>aa (ai v0) fun x7=>aa (ae 43 2 48 x7) fun x8=>aa (aX 48 49 42 x8 v1) fun x9=>aa (stv b s 42 x5 x9) fun s10=>some (.normal,[],s10):OR)) (get ρ 0) (get ρ 1):=zd
@[go_sem] theorem Zn:rc D b IT ρ s= some (.normal,[(4,(.int .i64 0))],s):=zr
@[go_sem] theorem abq:rc D b Ll ρ s=(fun v0=>(some (.normal,[(0,v0)],s):OR)) (get ρ 0):=zr
@[go_sem] theorem ags:rc D b Oz ρ s=(fun v0=>(some (.normal,[(0,v0),(3,(.int .i64 0))],s):OR)) (get ρ 0):=zr
@[go_sem] theorem afX:rc D b Kd ρ s=(fun v0 v3=>(aa (ai v0) fun x0=>aa (ae 80 2 78 x0) fun x1=>aa (ldv s 78 x1) fun x2=>some (.normal,[(3,v3),(9,x2),(10,(.int .i64 0))],s):OR)) (get ρ 0) (get ρ 3):=zr
@[go_sem] theorem adb:rc D b N9 ρ s=(fun v3 v9 v10=>(aa (ab .lss v10 (.int .i64 16)) fun x0=>some (.normal,[(3,v3),(9,v9),(10,v10),(11,x0)],s):OR)) (get ρ 3) (get ρ 9) (get ρ 10):=zr
@[go_sem] theorem afT:rc D b Q3 ρ s=(fun v3 v9 v10=>(aa (ib 78 16 v9 v10) fun x0=>some (.normal,[(3,v3),(5,x0),(9,v9),(10,v10)],s):OR)) (get ρ 3) (get ρ 9) (get ρ 10):=zr
@[go_sem] theorem acZ:rc D b P0 ρ s=(fun v3 v5 v9 v10=>(aa (rf D dq [v5] s) fun x0=>aa (ab .add v3 x0.1) fun x1=>some (.normal,[(3,x1),(9,v9),(10,v10)],x0.2):OR)) (get ρ 3) (get ρ 5) (get ρ 9) (get ρ 10):=zr
@[go_sem] theorem Zd:rc D b Ov ρ s=(fun v3 v9 v10=>(aa (ab .add v10 (.int .i64 1)) fun x0=>some (.normal,[(3,v3),(9,v9),(10,x0)],s):OR)) (get ρ 3) (get ρ 9) (get ρ 10):=zr
@[go_sem] theorem aap:rc D b KD ρ s=(fun v3=>(some (.normal,[(2,v3)],s):OR)) (get ρ 3):=zr
@[go_sem] theorem agm:rc D b NK ρ s=(fun v0=>(some (.normal,[(0,v0)],s):OR)) (get ρ 0):=zr
@[go_sem] theorem agI:rc D b Ob ρ s=(fun v0=>(aa (ai v0) fun x0=>aa (ae 80 2 78 x0) fun x1=>aa (ldv s 78 x1) fun x2=>some (.normal,[(0,v0),(10,x2),(11,(.int .i64 0))],s):OR)) (get ρ 0):=zr
@[go_sem] theorem YQ:rc D b Mp ρ s=(fun v0 v10 v11=>(aa (ab .lss v11 (.int .i64 16)) fun x0=>some (.normal,[(0,v0),(10,v10),(11,v11),(12,x0)],s):OR)) (get ρ 0) (get ρ 10) (get ρ 11):=zr
@[go_sem] theorem aaY:rc D b KY ρ s=(fun v0 v10 v11=>(aa (ib 78 16 v10 v11) fun x0=>some (.normal,[(0,v0),(4,v11),(5,x0),(10,v10),(11,v11)],s):OR)) (get ρ 0) (get ρ 10) (get ρ 11):=zr
@[go_sem] theorem afF:rc D b QL ρ s=(fun v0 v4 v5 v10 v11=>(aa (ab .neq v5 (.int .u64 0)) fun x0=>some (.normal,[(0,v0),(4,v4),(5,v5),(10,v10),(11,v11),(16,x0)],s):OR)) (get ρ 0) (get ρ 4) (get ρ 5) (get ρ 10) (get ρ 11):=zr
@[go_sem] theorem aey:rc D b LN ρ s=(fun v0 v4 v5=>(aa (ab .mul (.int .i64 64) v4) fun x0=>aa (rf D cw [v5] s) fun x1=>aa (ab .add x0 x1.1) fun x2=>some (.normal,[(0,v0),(6,x2)],x1.2):OR)) (get ρ 0) (get ρ 4) (get ρ 5):=zr
@[go_sem] theorem ad3:rc D b Mg ρ s=(fun v0 v6=>(aa (ai v0) fun x0=>aa (ae 80 2 78 x0) fun x1=>aa (rf D aT [x1,v6] s) fun x2=>some (.normal,[(6,v6)],x2.2):OR)) (get ρ 0) (get ρ 6):=zr
@[go_sem] theorem ZX:rc D b IE ρ s=(fun v6=>(some (.normal,[(2,v6),(3,(.int .i64 0))],s):OR)) (get ρ 6):=zr
@[go_sem] theorem agd:rc D b Qt ρ s=(fun v0 v10 v11=>(aa (ab .add v11 (.int .i64 1)) fun x0=>some (.normal,[(0,v0),(10,v10),(11,x0)],s):OR)) (get ρ 0) (get ρ 10) (get ρ 11):=zr
@[go_sem] theorem agG:rc D b J9 ρ s= some (.normal,[(2,(.int .i64 0)),(3,(.int .i64 10))],s):=zr
@[go_sem] theorem ae6:rc D b KX ρ s=(fun v0=>(some (.normal,[(0,v0)],s):OR)) (get ρ 0):=zr
@[go_sem] theorem acB:rc D b OI ρ s=(fun v0=>(aa (ai v0) fun x0=>aa (ae 43 6 0 x0) fun x1=>aa (ldv s 0 x1) fun x2=>some (.normal,[(0,v0),(6,x2)],s):OR)) (get ρ 0):=zr
@[go_sem] theorem YA:rc D b Jw ρ s= some (.normal,[(2,(.int .i64 3))],s):=zr
@[go_sem] theorem YK:rc D b QW ρ s=(fun v0=>(aa (ai v0) fun x0=>aa (ae 43 2 48 x0) fun x1=>aa (ldv s 48 x1) fun x2=>aa (ai v0) fun x3=>aa (ae 43 5 48 x3) fun x4=>aa (stv b s 48 x2 x4) fun s5=>aa (ai v0) fun x6=>aa (ae 43 6 0 x6) fun x7=>aa (stv b s5 0 (.bool true) x7) fun s8=>some (.normal,[(0,v0)],s8):OR)) (get ρ 0):=zr
@[go_sem] theorem aac:rc D b MW ρ s=(fun v0=>(aa (rf D bi [v0] s) fun x0=>some (.normal,[],x0.2):OR)) (get ρ 0):=zr
@[go_sem] theorem adJ:rc D b O2 ρ s= some (.normal,[(2,(.int .i64 0))],s):=zr
@[go_sem] theorem aad:rc D b Ja ρ s=(fun v0 v1=>(some (.normal,[(0,v0),(1,v1)],s):OR)) (get ρ 0) (get ρ 1):=zr
@[go_sem] theorem afm:rc D b N0 ρ s=(fun v0 v1=>(aa (ai v0) fun x0=>aa (ae 61 0 1 x0) fun x1=>aa (ldv s 1 x1) fun x2=>aa (rf D cQ [x2,(.int .i64 0),v1] s) fun x3=>some (.normal,[(4,x3.1)],x3.2):OR)) (get ρ 0) (get ρ 1):=zr
@[go_sem] theorem Zo:rc D b Pn ρ s=(fun v0 v1=>(if V.ok v0 && ap false v0 then let x0:V:=.ptr (St.fresh s false) [] (V.tag v0); let s0:St:=St.new s false v0; if V.ok v1 && ap false v1 then let x1:V:=.ptr (St.fresh s0 false) [] (V.tag v1); let s1:St:=St.new s0 false v1; some (.normal,[(2,x0),(3,x1)],s1) else none else none:OR)) (get ρ 0) (get ρ 1):=zr
@[go_sem] theorem acf:rc D b P1 ρ s=(fun v2 v3=>(some (.normal,[(2,v2),(3,v3),(5,.nils)],s):OR)) (get ρ 2) (get ρ 3):=zr
@[go_sem] theorem adE:rc D b LS ρ s=(fun v2 v3 v5=>(some (.normal,[(2,v2),(3,v3),(5,v5),(7,(.int .i64 0))],s):OR)) (get ρ 2) (get ρ 3) (get ρ 5):=zr
@[go_sem] theorem ZT:rc D b NP ρ s=(fun v2 v3 v5 v7=>(aa (ab .lss v7 (.int .i64 7)) fun x0=>some (.normal,[(2,v2),(3,v3),(5,v5),(7,v7),(8,x0)],s):OR)) (get ρ 2) (get ρ 3) (get ρ 5) (get ρ 7):=zr
@[go_sem] theorem abQ:rc D b Pz ρ s=(fun v2 v3 v5 v7=>(some (.normal,[(2,v2),(3,v3),(5,v5),(6,v7),(7,v7)],s):OR)) (get ρ 2) (get ρ 3) (get ρ 5) (get ρ 7):=zr
@[go_sem] theorem af7:rc D b Pa ρ s=(fun v2 v3 v5 v6 v7=>(aa (ab .mul (.int .i64 7) v6) fun x0=>aa (ab .mul (.int .i64 7) v6) fun x1=>aa (ab .add x1 (.int .i64 7)) fun x2=>aa (j8 s 48 49 42 (some x0) (some x2) none v2) fun x3=>aa (so 7 42 x3) fun x4=>aa (rO s 94 7 42 48 x4) fun x5=>aa (ab .mul (.int .i64 7) v6) fun x6=>aa (ab .mul (.int .i64 7) v6) fun x7=>aa (ab .add x7 (.int .i64 7)) fun x8=>aa (j8 s 48 49 42 (some x6) (some x8) none v3) fun x9=>aa (so 7 42 x9) fun x10=>aa (rO s 94 7 42 48 x10) fun x11=>aa (eqv true 94 x5 x11) fun x12=>some (.normal,[(2,v2),(3,v3),(5,v5),(6,v6),(7,v7),(26,x12)],s):OR)) (get ρ 2) (get ρ 3) (get ρ 5) (get ρ 6) (get ρ 7):=zd
@[go_sem] theorem aca:rc D b Rj ρ s=(fun v2 v3 v5 v6 v7=>(aa (nc false 38 10 1 (.int .i64 0) s [(0,v6)]) fun x0=>aa (aG b true 38 10 v5 x0.1 x0.2) fun x1=>some (.normal,[(2,v2),(3,v3),(5,x1.1),(7,v7)],x1.2):OR)) (get ρ 2) (get ρ 3) (get ρ 5) (get ρ 6) (get ρ 7):=zr
@[go_sem] theorem Ze:rc D b Ij ρ s=(fun v2 v3 v5 v7=>(aa (ab .add v7 (.int .i64 1)) fun x0=>some (.normal,[(2,v2),(3,v3),(5,v5),(7,x0)],s):OR)) (get ρ 2) (get ρ 3) (get ρ 5) (get ρ 7):=zr
@[go_sem] theorem abD:rc D b Kr ρ s=(fun v5=>(some (.normal,[(4,v5)],s):OR)) (get ρ 5):=zr
@[go_sem] theorem aa3:rc D b IK ρ s=(fun v0 v1=>(some (.normal,[(0,v0),(1,v1)],s):OR)) (get ρ 0) (get ρ 1):=zr
@[go_sem] theorem agp:rc D b Rb ρ s=(fun v0 v1=>(aa (ai v0) fun x0=>aa (ae 61 6 48 x0) fun x1=>aa (ldv s 48 x1) fun x2=>aa (rf D je [x2,v1] s) fun x3=>aa (aF 0 x3.1) fun x4=>aa (aF 1 x3.1) fun _x5=>let x6:V:=.ptr (St.fresh x3.2 false) [] 24; let s6:St:=St.new x3.2 false (.agg 24 (List.replicate 8 (.int .u64 0))); aa (stv b s6 24 x4 x6) fun s7=>some (.normal,[(0,v0),(1,v1),(5,x6)],s7):OR)) (get ρ 0) (get ρ 1):=zr
@[go_sem] theorem acW:rc D b JO ρ s=(fun v0 v1 v5=>(aa (ldv s 24 v5) fun x0=>aa (ai v0) fun x1=>aa (ae 61 7 50 x1) fun x2=>aa (aX 50 8 10 x2 v1) fun x3=>aa (rf D dm [v0,x0,x3] s) fun x4=>some (.normal,[(4,x4.1)],x4.2):OR)) (get ρ 0) (get ρ 1) (get ρ 5):=zd
@[go_sem] theorem adg:rc D b Iy ρ s=(fun v0=>(some (.normal,[(0,v0)],s):OR)) (get ρ 0):=zr
@[go_sem] theorem adL:rc D b Lm ρ s=(fun v0=>(aa (ai v0) fun x0=>aa (ae 61 7 50 x0) fun x1=>aa (j8 s 50 8 10 none (some (.int .i64 7)) none x1) fun x2=>aa (so 7 10 x2) fun x3=>aa (rO s 60 7 10 50 x3) fun x4=>aa (rf D iR [x4] s) fun x5=>aa (aF 0 x5.1) fun x6=>aa (aF 1 x5.1) fun _x7=>let x8:V:=.ptr (St.fresh x5.2 false) [] 24; let s8:St:=St.new x5.2 false (.agg 24 (List.replicate 8 (.int .u64 0))); aa (stv b s8 24 x6 x8) fun s9=>some (.normal,[(0,v0),(5,x8)],s9):OR)) (get ρ 0):=zr
@[go_sem] theorem ac7:rc D b MV ρ s=(fun v0 v5=>(aa (ldv s 24 v5) fun x0=>aa (ai v0) fun x1=>aa (ae 61 7 50 x1) fun x2=>aa (aX 50 8 10 x2 (.int .i64 7)) fun x3=>aa (rf D dm [v0,x0,x3] s) fun x4=>some (.normal,[(4,x4.1)],x4.2):OR)) (get ρ 0) (get ρ 5):=zd
@[go_sem] theorem aah:rc D b LQ ρ s=(fun v0=>(some (.normal,[(0,v0)],s):OR)) (get ρ 0):=zr
@[go_sem] theorem aaq:rc D b JS ρ s=(fun v0=>(aa (ai v0) fun x0=>aa (ae 61 0 1 x0) fun x1=>aa (ldv s 1 x1) fun x2=>aa (rf D cO [x2,(.int .i64 0)] s) fun x3=>some (.normal,[(4,x3.1)],x3.2):OR)) (get ρ 0):=zr
@[go_sem] theorem agz:rc D b PE ρ s=(fun v0=>(some (.normal,[(0,v0)],s):OR)) (get ρ 0):=zr
@[go_sem] theorem ac2:rc D b JB ρ s=(fun v0=>(aa (ai v0) fun x0=>aa (ae 61 2 44 x0) fun x1=>aa (ae 44 0 10 x1) fun x2=>aa (ldv s 10 x2) fun x3=>aa (ab .add x3 (.int .i64 1)) fun x4=>aa (ai v0) fun x5=>aa (ae 61 7 50 x5) fun x6=>aa (aX 50 8 10 x6 (.int .i64 7)) fun x7=>aa (ldv s 10 x7) fun x8=>aa (ai v0) fun x9=>aa (ae 61 5 10 x9) fun x10=>aa (ldv s 10 x10) fun x11=>aa (ai v0) fun x12=>aa (ae 61 2 44 x12) fun x13=>aa (ae 44 3 10 x13) fun x14=>aa (ldv s 10 x14) fun x15=>aa (aj [(.int .i64 0),(.int .i64 0),(.int .i64 0),(.int .i64 0)] [(0,x4),(1,x8),(2,x11),(3,x15)]) fun x16=>let x17:V:=.ptr (St.fresh s false) [] 44; let s17:St:=St.new s false (.agg 44 [(.int .i64 0),(.int .i64 0),(.int .i64 0),(.int .i64 0)]); aa (stv b s17 44 (.agg 44 x16) x17) fun s18=>some (.normal,[(0,v0),(5,x17)],s18):OR)) (get ρ 0):=zd
@[go_sem] theorem acy:rc D b Jx ρ s=(fun v0 v5=>(aa (ai v0) fun x0=>aa (ae 61 3 10 x0) fun x1=>aa (ldv s 10 x1) fun x2=>aa (ab .sub (.int .i64 1) x2) fun x3=>some (.normal,[(0,v0),(5,v5),(6,x3)],s):OR)) (get ρ 0) (get ρ 5):=zr
@[go_sem] theorem Zc:rc D b Qr ρ s=(fun v0 v5 v6=>(aa (ai v0) fun x0=>aa (ae 61 0 1 x0) fun x1=>aa (ldv s 1 x1) fun x2=>aa (ldv s 44 v5) fun x3=>aa (rf D jH [x2,(.int .i64 0),v6,x3] s) fun x4=>some (.normal,[(0,v0),(5,v5),(6,v6),(7,x4.1)],x4.2):OR)) (get ρ 0) (get ρ 5) (get ρ 6):=zd
@[go_sem] theorem acD:rc D b NN ρ s=(fun v0 v5 v6 v7=>(aa (ab .neq v7 (.int .i64 0)) fun x0=>some (.normal,[(0,v0),(5,v5),(6,v6),(7,v7),(42,x0)],s):OR)) (get ρ 0) (get ρ 5) (get ρ 6) (get ρ 7):=zr
@[go_sem] theorem aee:rc D b Lv ρ s=(fun v7=>(some (.normal,[(4,v7)],s):OR)) (get ρ 7):=zr
@[go_sem] theorem YF:rc D b JH ρ s=(fun v0 v5 v6=>(aa (ai v0) fun x0=>aa (ae 61 1 1 x0) fun x1=>aa (ldv s 1 x1) fun x2=>aa (ai v0) fun x3=>aa (ae 61 7 50 x3) fun x4=>aa (ldv s 50 x4) fun x5=>aa (rf D dH [x2,x5] s) fun x6=>some (.normal,[(0,v0),(5,v5),(6,v6)],x6.2):OR)) (get ρ 0) (get ρ 5) (get ρ 6):=zd
@[go_sem] theorem agJ:rc D b Oc ρ s=(fun v0 v5 v6=>(aa (ldv s 44 v5) fun x0=>aa (ai v0) fun x1=>aa (ae 61 2 44 x1) fun x2=>aa (stv b s 44 x0 x2) fun s3=>aa (ai v0) fun x4=>aa (ae 61 3 10 x4) fun x5=>aa (stv b s3 10 v6 x5) fun s6=>some (.normal,[],s6):OR)) (get ρ 0) (get ρ 5) (get ρ 6):=zr
@[go_sem] theorem YV:rc D b Q0 ρ s= some (.normal,[(4,(.int .i64 0))],s):=zr
@[go_sem] theorem ab5:rc D b Qh ρ s=(fun v0=>(some (.normal,[(0,v0)],s):OR)) (get ρ 0):=zr
@[go_sem] theorem adW:rc D b Nq ρ s=(fun v0=>(aa (ai v0) fun x0=>aa (ae 43 6 0 x0) fun x1=>aa (ldv s 0 x1) fun x2=>aa (vun .not x2) fun x3=>some (.normal,[(0,v0),(7,x3)],s):OR)) (get ρ 0):=zr
@[go_sem] theorem adK:rc D b NG ρ s= some (.normal,[(2,(.int .i64 3))],s):=zr
@[go_sem] theorem acX:rc D b Ox ρ s=(fun v0=>(aa (rf D bJ [v0] s) fun x0=>some (.normal,[],x0.2):OR)) (get ρ 0):=zr
@[go_sem] theorem adV:rc D b PJ ρ s= some (.normal,[(2,(.int .i64 0))],s):=zr
@[go_sem] theorem agk:rc D b Ns ρ s=(fun v0 v1=>(some (.normal,[(0,v0),(1,v1)],s):OR)) (get ρ 0) (get ρ 1):=zr
@[go_sem] theorem aaf:rc D b Qm ρ s=(fun v0 v1=>(aa (ab .lss v1 (.int .i64 0)) fun x0=>some (.normal,[(0,v0),(1,v1),(5,x0)],s):OR)) (get ρ 0) (get ρ 1):=zr
@[go_sem] theorem adm:rc D b K4 ρ s=(fun v0 v1=>(aa (ab .geq v1 (.int .i64 49)) fun x0=>some (.normal,[(0,v0),(1,v1),(5,x0)],s):OR)) (get ρ 0) (get ρ 1):=zr
@[go_sem] theorem Zp:rc D b JK ρ s= some (.normal,[(4,(.int .i64 1))],s):=zr
@[go_sem] theorem Zw:rc D b IS ρ s=(fun v0 v1=>(aa (ai v0) fun x0=>aa (ae 43 2 48 x0) fun x1=>aa (aX 48 49 42 x1 v1) fun x2=>aa (ae 42 0 10 x2) fun x3=>aa (ldv s 10 x3) fun x4=>aa (ab .eql x4 (.int .i64 0)) fun x5=>some (.normal,[(10,x5)],s):OR)) (get ρ 0) (get ρ 1):=zr
@[go_sem] theorem ZP:rc D b Qz ρ s= some (.normal,[(4,(.int .i64 30))],s):=zr
@[go_sem] theorem aa6:rc D b II ρ s= some (.normal,[(4,(.int .i64 0))],s):=zr
@[go_sem] theorem abd:rc D b Ka ρ s=(fun v0 v1=>(let x0:V:=.ptr (St.fresh s false) [] 24; let s0:St:=St.new s false (.agg 24 (List.replicate 8 (.int .u64 0))); some (.normal,[(0,v0),(1,v1),(4,x0)],s0):OR)) (get ρ 0) (get ρ 1):=zr
@[go_sem] theorem Zz:rc D b Kn ρ s=(fun v0 v1 v4=>(aa (rf D cv [v0,v1] s) fun x0=>some (.normal,[(0,v0),(4,v4),(6,x0.1)],x0.2):OR)) (get ρ 0) (get ρ 1) (get ρ 4):=zr
@[go_sem] theorem aba:rc D b OS ρ s=(fun v0 v4 v6=>(aa (eqv false 1 v6 .nilp) fun x0=>some (.normal,[(0,v0),(4,v4),(6,v6),(10,x0)],s):OR)) (get ρ 0) (get ρ 4) (get ρ 6):=zr
@[go_sem] theorem aeX:rc D b Nk ρ s=(fun v4=>(aa (aj (List.replicate 8 (.int .u64 0)) []) fun x0=>aa (stv b s 24 (.agg 24 x0) v4) fun s1=>some (.normal,[(4,v4),(5,(.int .i64 1))],s1):OR)) (get ρ 4):=zr
@[go_sem] theorem aaj:rc D b IJ ρ s=(fun v0 v4 v6=>(aa (ai v0) fun x0=>aa (ae 59 1 0 x0) fun x1=>aa (ldv s 0 x1) fun x2=>some (.normal,[(4,v4),(6,v6),(14,x2)],s):OR)) (get ρ 0) (get ρ 4) (get ρ 6):=zr
@[go_sem] theorem agN:rc D b P4 ρ s=(fun v4=>(aa (aj (List.replicate 8 (.int .u64 0)) []) fun x0=>aa (stv b s 24 (.agg 24 x0) v4) fun s1=>some (.normal,[(4,v4),(5,(.int .i64 4))],s1):OR)) (get ρ 4):=zr
@[go_sem] theorem aeA:rc D b Lo ρ s=(fun v4 v6=>(aa (ai v6) fun x0=>aa (ae 55 0 24 x0) fun x1=>aa (ldv s 24 x1) fun x2=>aa (stv b s 24 x2 v4) fun s3=>some (.normal,[(4,v4),(5,(.int .i64 0))],s3):OR)) (get ρ 4) (get ρ 6):=zr
@[go_sem] theorem ae5:rc D b LY ρ s=(fun v0=>(some (.normal,[(0,v0)],s):OR)) (get ρ 0):=zr
@[go_sem] theorem Yr:rc D b MS ρ s=(fun v0=>(aa (ab .lss v0 (.int .i64 64)) fun x0=>ao x0 false (aa (ab .gtr v0 (.int .i64 1024)) fun x1=>some (.normal,[(0,v0),(9,x1)],s)) (some (.normal,[(0,v0),(9,(.bool true))],s)) (none):OR)) (get ρ 0):=zr
@[go_sem] theorem abe:rc D b Ln ρ s= some (.normal,[(2,.nilp),(3,(.int .i64 1))],s):=zr
@[go_sem] theorem aam:rc D b IP ρ s=(fun v0=>(aa (tu true 57 55 (.agg 55 [(.agg 24 (List.replicate 8 (.int .u64 0))),(.agg 24 (List.replicate 8 (.int .u64 0))),.nils,(.agg 50 (List.replicate 8 (.int .i64 0)))]) s v0 v0) fun x0=>aa (aj [.nils,(.bool false),(.bool false),(.int .i64 0),(.int .i64 0)] [(0,x0.1)]) fun x1=>if V.ok (.agg 59 x1) && ap true (.agg 59 x1) then let x2:V:=.ptr (St.fresh x0.2 true) [] (V.tag (.agg 59 x1)); let s2:St:=St.new x0.2 true (.agg 59 x1); some (.normal,[(2,x2),(3,(.int .i64 0))],s2) else none:OR)) (get ρ 0):=zr
@[go_sem] theorem aa0:rc D b Q8 ρ s=(fun v0 v1=>(if V.ok v0 && ap false v0 then let x0:V:=.ptr (St.fresh s false) [] (V.tag v0); let s0:St:=St.new s false v0; let x1:V:=.ptr (St.fresh s0 false) [] 24; let s1:St:=St.new s0 false (.agg 24 (List.replicate 8 (.int .u64 0))); some (.normal,[(1,v1),(2,x0),(4,x1)],s1) else none:OR)) (get ρ 0) (get ρ 1):=zr
@[go_sem] theorem ag9:rc D b Qa ρ s=(fun v1 v2 v4=>(aa (aj (List.replicate 8 (.int .u64 0)) []) fun x0=>let x1:V:=.ptr (St.fresh s false) [] 24; let s1:St:=St.new s false (.agg 24 (List.replicate 8 (.int .u64 0))); aa (stv b s1 24 (.agg 24 x0) x1) fun s2=>some (.normal,[(1,v1),(2,v2),(4,v4),(6,x1)],s2):OR)) (get ρ 1) (get ρ 2) (get ρ 4):=zr
@[go_sem] theorem abS:rc D b LK ρ s=(fun v1 v2 v4 v6=>(aa (ab .lss v1 (.int .i64 0)) fun x0=>ao x0 false (aa (ab .geq v1 (.int .i64 7)) fun x1=>some (.normal,[(1,v1),(2,v2),(4,v4),(6,v6),(16,x1)],s)) (some (.normal,[(1,v1),(2,v2),(4,v4),(6,v6),(16,(.bool true))],s)) (none):OR)) (get ρ 1) (get ρ 2) (get ρ 4) (get ρ 6):=zr
@[go_sem] theorem aeg:rc D b O5 ρ s=(fun v4 v6=>(aa (ldv s 24 v6) fun x0=>aa (stv b s 24 x0 v4) fun s1=>some (.normal,[(4,v4),(5,(.int .i64 1))],s1):OR)) (get ρ 4) (get ρ 6):=zr
@[go_sem] theorem ag0:rc D b Kb ρ s=(fun v1 v2 v4 v6=>(some (.normal,[(1,v1),(2,v2),(4,v4),(6,v6),(7,(.int .i64 0))],s):OR)) (get ρ 1) (get ρ 2) (get ρ 4) (get ρ 6):=zr
@[go_sem] theorem afs:rc D b QP ρ s=(fun v1 v2 v4 v6 v7=>(aa (ab .lss v7 (.int .i64 7)) fun x0=>some (.normal,[(1,v1),(2,v2),(4,v4),(6,v6),(7,v7),(19,x0)],s):OR)) (get ρ 1) (get ρ 2) (get ρ 4) (get ρ 6) (get ρ 7):=zr
@[go_sem] theorem acb:rc D b Pf ρ s=(fun v1 v2 v4 v6 v7=>(aa (ab .mul (.int .i64 7) v1) fun x0=>aa (ab .add x0 v7) fun x1=>aa (aX 48 49 42 v2 x1) fun x2=>aa (ldv s 42 x2) fun x3=>aa (rf D d6 [x3] s) fun x4=>aa (aF 0 x4.1) fun x5=>aa (aF 1 x4.1) fun x6=>some (.normal,[(1,v1),(2,v2),(4,v4),(6,v6),(7,v7),(8,x5),(9,x6)],x4.2):OR)) (get ρ 1) (get ρ 2) (get ρ 4) (get ρ 6) (get ρ 7):=zr
@[go_sem] theorem abt:rc D b No ρ s=(fun v1 v2 v4 v6 v7 v8 v9=>(aa (ab .neq v9 (.int .i64 0)) fun x0=>some (.normal,[(1,v1),(2,v2),(4,v4),(6,v6),(7,v7),(8,v8),(33,x0)],s):OR)) (get ρ 1) (get ρ 2) (get ρ 4) (get ρ 6) (get ρ 7) (get ρ 8) (get ρ 9):=zr
@[go_sem] theorem afb:rc D b Ni ρ s=(fun v4=>(aa (aj (List.replicate 8 (.int .u64 0)) []) fun x0=>aa (stv b s 24 (.agg 24 x0) v4) fun s1=>some (.normal,[(4,v4),(5,(.int .i64 1))],s1):OR)) (get ρ 4):=zr
@[go_sem] theorem abu:rc D b Qn ρ s=(fun v1 v2 v4 v6 v7 v8=>(aa (aX 24 8 18 v6 v7) fun x0=>aa (stv b s 18 v8 x0) fun s1=>some (.normal,[(1,v1),(2,v2),(4,v4),(6,v6),(7,v7)],s1):OR)) (get ρ 1) (get ρ 2) (get ρ 4) (get ρ 6) (get ρ 7) (get ρ 8):=zr
@[go_sem] theorem XU:rc D b El ρ s=(fun v1 v2 v4 v6 v7=>(aa (ab .add v7 (.int .i64 1)) fun x0=>some (.normal,[(1,v1),(2,v2),(4,v4),(6,v6),(7,x0)],s):OR)) (get ρ 1) (get ρ 2) (get ρ 4) (get ρ 6) (get ρ 7):=zr
@[go_sem] theorem Xc:rc D b Fk ρ s=(fun v4 v6=>(aa (ldv s 24 v6) fun x0=>aa (rf D bX [x0] s) fun x1=>aa (stv b x1.2 24 x1.1 v4) fun s2=>some (.normal,[(4,v4),(5,(.int .i64 0))],s2):OR)) (get ρ 4) (get ρ 6):=zr
@[go_sem] theorem afB:rc D b QQ ρ s=(fun v0=>(if V.ok v0 && ap false v0 then let x0:V:=.ptr (St.fresh s false) [] (V.tag v0); let s0:St:=St.new s false v0; let x1:V:=.ptr (St.fresh s0 false) [] 24; let s1:St:=St.new s0 false (.agg 24 (List.replicate 8 (.int .u64 0))); some (.normal,[(1,x0),(2,x1)],s1) else none:OR)) (get ρ 0):=zr
@[go_sem] theorem afh:rc D b Ky ρ s=(fun v1 v2=>(aa (aj (List.replicate 8 (.int .u64 0)) []) fun x0=>let x1:V:=.ptr (St.fresh s false) [] 24; let s1:St:=St.new s false (.agg 24 (List.replicate 8 (.int .u64 0))); aa (stv b s1 24 (.agg 24 x0) x1) fun s2=>some (.normal,[(1,v1),(2,v2),(4,x1)],s2):OR)) (get ρ 1) (get ρ 2):=zr
@[go_sem] theorem adO:rc D b PK ρ s=(fun v1 v2 v4=>(some (.normal,[(1,v1),(2,v2),(4,v4),(5,(.int .i64 0))],s):OR)) (get ρ 1) (get ρ 2) (get ρ 4):=zr
@[go_sem] theorem acC:rc D b Oa ρ s=(fun v1 v2 v4 v5=>(aa (ab .lss v5 (.int .i64 7)) fun x0=>some (.normal,[(1,v1),(2,v2),(4,v4),(5,v5),(8,x0)],s):OR)) (get ρ 1) (get ρ 2) (get ρ 4) (get ρ 5):=zr
@[go_sem] theorem aau:rc D b LU ρ s=(fun v1 v2 v4 v5=>(aa (aX 60 7 10 v1 v5) fun x0=>aa (ldv s 10 x0) fun x1=>aa (ab .lss x1 (.int .i64 0)) fun x2=>ao x2 false (aa (aX 60 7 10 v1 v5) fun x3=>aa (ldv s 10 x3) fun x4=>aa (ab .geq x4 (.int .i64 1024)) fun x5=>some (.normal,[(1,v1),(2,v2),(4,v4),(5,v5),(20,x5)],s)) (some (.normal,[(1,v1),(2,v2),(4,v4),(5,v5),(20,(.bool true))],s)) (none):OR)) (get ρ 1) (get ρ 2) (get ρ 4) (get ρ 5):=zr
@[go_sem] theorem Zb:rc D b JJ ρ s=(fun v2=>(aa (aj (List.replicate 8 (.int .u64 0)) []) fun x0=>aa (stv b s 24 (.agg 24 x0) v2) fun s1=>some (.normal,[(2,v2),(3,(.int .i64 1))],s1):OR)) (get ρ 2):=zr
@[go_sem] theorem ae3:rc D b K9 ρ s=(fun v1 v2 v4 v5=>(aa (aX 60 7 10 v1 v5) fun x0=>aa (ldv s 10 x0) fun x1=>aa (cX .u64 x1) fun x2=>aa (ab .or x2 (.int .u64 4294967296)) fun x3=>aa (aX 24 8 18 v4 v5) fun x4=>aa (stv b s 18 x3 x4) fun s5=>some (.normal,[(1,v1),(2,v2),(4,v4),(5,v5)],s5):OR)) (get ρ 1) (get ρ 2) (get ρ 4) (get ρ 5):=zr
@[go_sem] theorem aaA:rc D b Ng ρ s=(fun v1 v2 v4 v5=>(aa (ab .add v5 (.int .i64 1)) fun x0=>some (.normal,[(1,v1),(2,v2),(4,v4),(5,x0)],s):OR)) (get ρ 1) (get ρ 2) (get ρ 4) (get ρ 5):=zr
@[go_sem] theorem afz:rc D b Pb ρ s=(fun v2 v4=>(aa (ldv s 24 v4) fun x0=>aa (rf D bX [x0] s) fun x1=>aa (stv b x1.2 24 x1.1 v2) fun s2=>some (.normal,[(2,v2),(3,(.int .i64 0))],s2):OR)) (get ρ 2) (get ρ 4):=zr
@[go_sem] theorem Zq:rc D b Nn ρ s=(fun v0 v1=>(some (.normal,[(0,v0),(1,v1)],s):OR)) (get ρ 0) (get ρ 1):=zr
@[go_sem] theorem abG:rc D b Ir ρ s=(fun v0 v1=>(aa (ab .lss v0 (.int .i64 0)) fun x0=>ao x0 false (aa (ab .gtr v0 v1) fun x1=>ao x1 false (aa (ab .gtr v1 (.int .i64 1024)) fun x2=>some (.normal,[(0,v0),(1,v1),(18,x2)],s)) (some (.normal,[(0,v0),(1,v1),(18,(.bool true))],s)) (none)) (some (.normal,[(0,v0),(1,v1),(18,(.bool true))],s)) (none):OR)) (get ρ 0) (get ρ 1):=zr
@[go_sem] theorem ZZ:rc D b Mr ρ s= some (.normal,[(4,.nilp),(5,(.int .i64 1))],s):=zr
@[go_sem] theorem ZB:rc D b NQ ρ s=(fun v0 v1=>(aa (aj [(.int .i64 0),(.int .i64 0),(.agg 78 (List.replicate 16 (.int .u64 0))),(.agg 78 (List.replicate 16 (.int .u64 0)))] [(0,v0),(1,v1)]) fun x0=>if V.ok (.agg 80 x0) && ap true (.agg 80 x0) then let x1:V:=.ptr (St.fresh s true) [] (V.tag (.agg 80 x0)); let s1:St:=St.new s true (.agg 80 x0); some (.normal,[(0,v0),(1,v1),(6,x1)],s1) else none:OR)) (get ρ 0) (get ρ 1):=zr
@[go_sem] theorem afO:rc D b Q2 ρ s=(fun v0 v1 v6=>(aa (ab .sub v1 v0) fun x0=>some (.normal,[(0,v0),(6,v6),(25,x0),(26,(.int .i64 0))],s):OR)) (get ρ 0) (get ρ 1) (get ρ 6):=zr
@[go_sem] theorem aft:rc D b P6 ρ s=(fun v0 v6 v25 v26=>(aa (ab .lss v26 v25) fun x0=>some (.normal,[(0,v0),(6,v6),(25,v25),(26,v26),(27,x0)],s):OR)) (get ρ 0) (get ρ 6) (get ρ 25) (get ρ 26):=zr
@[go_sem] theorem ZG:rc D b Jj ρ s=(fun v0 v6 v25 v26=>(some (.normal,[(0,v0),(6,v6),(7,v26),(25,v25),(26,v26)],s):OR)) (get ρ 0) (get ρ 6) (get ρ 25) (get ρ 26):=zr
@[go_sem] theorem abg:rc D b NY ρ s=(fun v0 v6 v7 v25 v26=>(aa (ai v6) fun x0=>aa (ae 80 2 78 x0) fun x1=>aa (ab .add v0 v7) fun x2=>aa (rf D aT [x1,x2] s) fun x3=>some (.normal,[(0,v0),(6,v6),(25,v25),(26,v26)],x3.2):OR)) (get ρ 0) (get ρ 6) (get ρ 7) (get ρ 25) (get ρ 26):=zr
@[go_sem] theorem YO:rc D b JP ρ s=(fun v0 v6 v25 v26=>(aa (ab .add v26 (.int .i64 1)) fun x0=>some (.normal,[(0,v0),(6,v6),(25,v25),(26,x0)],s):OR)) (get ρ 0) (get ρ 6) (get ρ 25) (get ρ 26):=zr
@[go_sem] theorem ZD:rc D b Pr ρ s=(fun v6=>(some (.normal,[(4,v6),(5,(.int .i64 0))],s):OR)) (get ρ 6):=zr
@[go_sem] theorem aer:rc D b Ml ρ s=(fun v0=>(some (.normal,[(0,v0)],s):OR)) (get ρ 0):=zr
@[go_sem] theorem ada:rc D b Oj ρ s=(fun v0=>(aa (ai v0) fun x0=>aa (ae 59 0 1 x0) fun x1=>aa (ldv s 1 x1) fun x2=>aa (V.slen false x2) fun x3=>some (.normal,[(2,(.int .i64 x3))],s):OR)) (get ρ 0):=zr
@[go_sem] theorem aaH:rc D b Ol ρ s=(fun v0 v1=>(some (.normal,[(0,v0),(1,v1)],s):OR)) (get ρ 0) (get ρ 1):=zr
@[go_sem] theorem adu:rc D b Mz ρ s=(fun v0 v1=>(aa (rf D bD [v0,v1,(.int .i64 0)] s) fun x0=>some (.normal,[(0,v0),(1,v1),(5,x0.1)],x0.2):OR)) (get ρ 0) (get ρ 1):=zr
@[go_sem] theorem Zf:rc D b Ib ρ s=(fun v0 v1 v5=>(aa (ab .eql v5 (.int .i64 0)) fun x0=>some (.normal,[(0,v0),(1,v1),(5,v5),(10,x0)],s):OR)) (get ρ 0) (get ρ 1) (get ρ 5):=zr
@[go_sem] theorem acM:rc D b LO ρ s=(fun v0 v1 v5=>(aa (ai v0) fun x0=>aa (ae 80 2 78 x0) fun x1=>aa (rf D aT [x1,v1] s) fun x2=>some (.normal,[(5,v5)],x2.2):OR)) (get ρ 0) (get ρ 1) (get ρ 5):=zr
@[go_sem] theorem abM:rc D b Ip ρ s=(fun v5=>(some (.normal,[(4,v5)],s):OR)) (get ρ 5):=zr
@[go_sem] theorem ZN:rc D b PM ρ s=(fun v0=>(aa (aj (List.replicate 1024 (.bool false)) []) fun x0=>aa (ai v0) fun x1=>aa (ae 43 7 82 x1) fun x2=>aa (stv b s 82 (.agg 82 x0) x2) fun s3=>some (.normal,[(0,v0)],s3):OR)) (get ρ 0):=zr
@[go_sem] theorem afL:rc D b Px ρ s=(fun v0=>(aa (ai v0) fun x0=>aa (ae 43 7 82 x0) fun x1=>aa (ai v0) fun x2=>aa (ae 43 3 48 x2) fun x3=>aa (ldv s 48 x3) fun x4=>aa (rf D bd [x1,x4] s) fun x5=>some (.normal,[(0,v0)],x5.2):OR)) (get ρ 0):=zd
@[go_sem] theorem ZM:rc D b KO ρ s=(fun v0=>(aa (ai v0) fun x0=>aa (ae 43 6 0 x0) fun x1=>aa (ldv s 0 x1) fun x2=>some (.normal,[(0,v0),(17,x2)],s):OR)) (get ρ 0):=zr
@[go_sem] theorem adX:rc D b Ow ρ s=(fun v0=>(aa (ai v0) fun x0=>aa (ae 43 7 82 x0) fun x1=>aa (ai v0) fun x2=>aa (ae 43 5 48 x2) fun x3=>aa (ldv s 48 x3) fun x4=>aa (rf D bd [x1,x4] s) fun x5=>some (.normal,[],x5.2):OR)) (get ρ 0):=zd
@[go_sem] theorem acH:rc D b Nf ρ s=(fun v0 v1=>(some (.normal,[(0,v0),(1,v1)],s):OR)) (get ρ 0) (get ρ 1):=zr
@[go_sem] theorem afC:rc D b MK ρ s=(fun v0 v1=>(aa (ai v0) fun x0=>aa (ae 43 2 48 x0) fun x1=>aa (aX 48 49 42 x1 v1) fun x2=>aa (ae 42 2 10 x2) fun x3=>aa (ldv s 10 x3) fun x4=>aa (ai v0) fun x5=>aa (ae 43 7 82 x5) fun x6=>aa (aX 82 1024 0 x6 x4) fun x7=>aa (ldv s 0 x7) fun x8=>aa (vun .not x8) fun x9=>some (.normal,[(4,x9)],s):OR)) (get ρ 0) (get ρ 1):=zd
@[go_sem] theorem acN:rc D b I0 ρ s=(fun v0 v1 v2 v3=>(some (.normal,[(0,v0),(1,v1),(2,v2),(3,v3)],s):OR)) (get ρ 0) (get ρ 1) (get ρ 2) (get ρ 3):=zr
@[go_sem] theorem Zx:rc D b KV ρ s=(fun v0 v1 v2 v3=>(aa (rf D cv [v0,v1] s) fun x0=>some (.normal,[(0,v0),(2,v2),(3,v3),(9,x0.1)],x0.2):OR)) (get ρ 0) (get ρ 1) (get ρ 2) (get ρ 3):=zr
@[go_sem] theorem aci:rc D b NA ρ s=(fun v0 v2 v3 v9=>(aa (eqv false 1 v9 .nilp) fun x0=>ao x0 false (aa (ab .lss v2 (.int .i64 0)) fun x1=>ao x1 false (aa (ab .geq v2 (.int .i64 8)) fun x2=>some (.normal,[(0,v0),(2,v2),(3,v3),(9,v9),(23,x2)],s)) (some (.normal,[(0,v0),(2,v2),(3,v3),(9,v9),(23,(.bool true))],s)) (none)) (some (.normal,[(0,v0),(2,v2),(3,v3),(9,v9),(23,(.bool true))],s)) (none):OR)) (get ρ 0) (get ρ 2) (get ρ 3) (get ρ 9):=zr
@[go_sem] theorem afU:rc D b Oo ρ s= some (.normal,[(8,(.int .i64 1))],s):=zr
@[go_sem] theorem adS:rc D b MB ρ s=(fun v0 v2 v3 v9=>(aa (rf D a8 [v0] s) fun x0=>some (.normal,[(2,v2),(3,v3),(9,v9),(10,x0.1)],x0.2):OR)) (get ρ 0) (get ρ 2) (get ρ 3) (get ρ 9):=zr
@[go_sem] theorem Yl:rc D b Mo ρ s=(fun v2 v3 v9 v10=>(aa (ab .neq v10 (.int .i64 0)) fun x0=>some (.normal,[(2,v2),(3,v3),(9,v9),(10,v10),(27,x0)],s):OR)) (get ρ 2) (get ρ 3) (get ρ 9) (get ρ 10):=zr
@[go_sem] theorem agx:rc D b Lx ρ s=(fun v10=>(some (.normal,[(8,v10)],s):OR)) (get ρ 10):=zr
@[go_sem] theorem Zl:rc D b Kz ρ s=(fun v2 v3 v9=>(aa (ai v9) fun x0=>aa (ae 55 0 24 x0) fun x1=>aa (aX 24 8 18 x1 v2) fun x2=>aa (stv b s 18 v3 x2) fun s3=>some (.normal,[(2,v2),(3,v3),(9,v9)],s3):OR)) (get ρ 2) (get ρ 3) (get ρ 9):=zr
@[go_sem] theorem acS:rc D b MU ρ s=(fun v2 v3 v9=>(aa (ai v9) fun x0=>aa (ae 55 2 1 x0) fun x1=>aa (ldv s 1 x1) fun x2=>aa (aj [(.int .i64 0),(.int .u64 0)] [(0,v2),(1,v3)]) fun x3=>aa (nc false 86 84 1 (.agg 84 [(.int .i64 0),(.int .u64 0)]) s [(0,(.agg 84 x3))]) fun x4=>aa (aG b true 86 84 x2 x4.1 x4.2) fun x5=>aa (ai v9) fun x6=>aa (ae 55 2 1 x6) fun x7=>aa (stv b x5.2 1 x5.1 x7) fun s8=>some (.normal,[],s8):OR)) (get ρ 2) (get ρ 3) (get ρ 9):=zr
@[go_sem] theorem ac3:rc D b NT ρ s= some (.normal,[(8,(.int .i64 0))],s):=zr
@[go_sem] theorem Zm:rc D b QU ρ s=(fun v0 v1=>(if V.ok v1 && ap false v1 then let x0:V:=.ptr (St.fresh s false) [] (V.tag v1); let s0:St:=St.new s false v1; some (.normal,[(0,v0),(3,x0)],s0) else none:OR)) (get ρ 0) (get ρ 1):=zr
@[go_sem] theorem ag6:rc D b PI ρ s=(fun v0 v3=>(aa (ai v0) fun x0=>aa (ae 43 1 1 x0) fun x1=>aa (ldv s 1 x1) fun x2=>aa (rf D bg [x2] s) fun x3=>aa (aF 0 x3.1) fun x4=>aa (aF 1 x3.1) fun x5=>some (.normal,[(0,v0),(3,v3),(6,x4),(7,x5)],x3.2):OR)) (get ρ 0) (get ρ 3):=zr
@[go_sem] theorem ab8:rc D b Ot ρ s=(fun v0 v3 v6 v7=>(aa (ab .neq v7 (.int .i64 0)) fun x0=>some (.normal,[(0,v0),(3,v3),(6,v6),(7,v7),(20,x0)],s):OR)) (get ρ 0) (get ρ 3) (get ρ 6) (get ρ 7):=zr
@[go_sem] theorem adY:rc D b MQ ρ s=(fun v7=>(some (.normal,[(4,(.int .i64 0)),(5,v7)],s):OR)) (get ρ 7):=zr
@[go_sem] theorem ad1:rc D b QT ρ s=(fun v0 v3 v6=>(aa (ldv s 24 v3) fun x0=>some (.normal,[(0,v0),(6,v6),(22,x0),(23,(.int .i64 0))],s):OR)) (get ρ 0) (get ρ 3) (get ρ 6):=zr
@[go_sem] theorem ag2:rc D b MY ρ s=(fun v0 v6 v22 v23=>(aa (ab .lss v23 (.int .i64 8)) fun x0=>some (.normal,[(0,v0),(6,v6),(22,v22),(23,v23),(24,x0)],s):OR)) (get ρ 0) (get ρ 6) (get ρ 22) (get ρ 23):=zr
@[go_sem] theorem ae9:rc D b J5 ρ s=(fun v0 v6 v22 v23=>(aa (ib 24 8 v22 v23) fun x0=>some (.normal,[(0,v0),(6,v6),(8,v23),(9,x0),(22,v22),(23,v23)],s):OR)) (get ρ 0) (get ρ 6) (get ρ 22) (get ρ 23):=zr
@[go_sem] theorem adf:rc D b KZ ρ s=(fun v0 v6 v8 v9 v22 v23=>(aa (ai v0) fun x0=>aa (ae 43 0 1 x0) fun x1=>aa (ldv s 1 x1) fun x2=>aa (rf D aV [x2,v6,v8,v9] s) fun x3=>some (.normal,[(0,v0),(6,v6),(10,x3.1),(22,v22),(23,v23)],x3.2):OR)) (get ρ 0) (get ρ 6) (get ρ 8) (get ρ 9) (get ρ 22) (get ρ 23):=zr
@[go_sem] theorem Yo:rc D b IW ρ s=(fun v0 v6 v10 v22 v23=>(aa (ab .neq v10 (.int .i64 0)) fun x0=>some (.normal,[(0,v0),(6,v6),(10,v10),(22,v22),(23,v23),(36,x0)],s):OR)) (get ρ 0) (get ρ 6) (get ρ 10) (get ρ 22) (get ρ 23):=zr
@[go_sem] theorem adn:rc D b J2 ρ s=(fun v10=>(some (.normal,[(4,(.int .i64 0)),(5,v10)],s):OR)) (get ρ 10):=zr
@[go_sem] theorem Yj:rc D b Dg ρ s=(fun v0 v6 v22 v23=>(aa (ab .add v23 (.int .i64 1)) fun x0=>some (.normal,[(0,v0),(6,v6),(22,v22),(23,x0)],s):OR)) (get ρ 0) (get ρ 6) (get ρ 22) (get ρ 23):=zr
@[go_sem] theorem XL:rc D b ED ρ s=(fun v6=>(some (.normal,[(4,v6),(5,(.int .i64 0))],s):OR)) (get ρ 6):=zr
@[go_sem] theorem Zh:rc D b Lt ρ s=(fun v0 v1=>(some (.normal,[(0,v0),(1,v1)],s):OR)) (get ρ 0) (get ρ 1):=zr
@[go_sem] theorem agE:rc D b OB ρ s=(fun v0 v1=>(some (.normal,[(0,v0),(9,v1)],s):OR)) (get ρ 0) (get ρ 1):=zr
@[go_sem] theorem acx:rc D b Rh ρ s=(fun v0 v9=>(aa (ab .eql v9 (.int .i64 1)) fun x0=>some (.normal,[(0,v0),(9,v9),(10,x0)],s):OR)) (get ρ 0) (get ρ 9):=zr
@[go_sem] theorem agK:rc D b J4 ρ s=(fun v0 v9=>(aa (ab .eql v9 (.int .i64 2)) fun x0=>some (.normal,[(0,v0),(9,v9),(10,x0)],s):OR)) (get ρ 0) (get ρ 9):=zr
@[go_sem] theorem ae0:rc D b PF ρ s=(fun v0 v9=>(aa (ab .eql v9 (.int .i64 4)) fun x0=>some (.normal,[(0,v0),(10,x0)],s):OR)) (get ρ 0) (get ρ 9):=zr
@[go_sem] theorem abX:rc D b KL ρ s= some (.normal,[(4,(.int .i64 0)),(5,(.int .i64 0)),(6,(.int .i64 1))],s):=zr
@[go_sem] theorem adN:rc D b MM ρ s=(fun v0=>(aa (ai v0) fun x0=>aa (ae 43 2 48 x0) fun x1=>aa (ldv s 48 x1) fun x2=>some (.normal,[(17,x2),(18,(.int .i64 0))],s):OR)) (get ρ 0):=zr
@[go_sem] theorem YH:rc D b MX ρ s=(fun v17 v18=>(aa (ab .lss v18 (.int .i64 49)) fun x0=>some (.normal,[(17,v17),(18,v18),(19,x0)],s):OR)) (get ρ 17) (get ρ 18):=zr
@[go_sem] theorem afc:rc D b J3 ρ s=(fun v17 v18=>(aa (ib 48 49 v17 v18) fun x0=>let x1:V:=.ptr (St.fresh s false) [] 42; let s1:St:=St.new s false (.agg 42 [(.int .i64 0),(.int .i64 0),(.int .i64 0)]); aa (stv b s1 42 x0 x1) fun s2=>some (.normal,[(7,v18),(8,x1),(17,v17),(18,v18)],s2):OR)) (get ρ 17) (get ρ 18):=zr
@[go_sem] theorem ads:rc D b MG ρ s=(fun v7 v8 v17 v18=>(aa (ldv s 42 v8) fun x0=>aa (rf D km [x0] s) fun x1=>some (.normal,[(7,v7),(8,v8),(17,v17),(18,v18),(23,x1.1)],x1.2):OR)) (get ρ 7) (get ρ 8) (get ρ 17) (get ρ 18):=zr
@[go_sem] theorem Yd:rc D b Cu ρ s=(fun v7 v8=>(aa (ae 42 1 10 v8) fun x0=>aa (ldv s 10 x0) fun x1=>some (.normal,[(4,v7),(5,x1),(6,(.int .i64 0))],s):OR)) (get ρ 7) (get ρ 8):=zd
@[go_sem] theorem XC:rc D b CA ρ s=(fun v17 v18=>(aa (ab .add v18 (.int .i64 1)) fun x0=>some (.normal,[(17,v17),(18,x0)],s):OR)) (get ρ 17) (get ρ 18):=zr
@[go_sem] theorem WO:rc D b CT ρ s= some (.normal,[(4,(.int .i64 0)),(5,(.int .i64 0)),(6,(.int .i64 34))],s):=zr
@[go_sem] theorem Yp:rc D b Qs ρ s=(fun v0 v1=>(some (.normal,[(0,v0),(1,v1)],s):OR)) (get ρ 0) (get ρ 1):=zr
@[go_sem] theorem adM:rc D b OK ρ s=(fun v0 v1=>(aa (rf D bD [v0,v1,(.int .i64 1)] s) fun x0=>some (.normal,[(0,v0),(1,v1),(5,x0.1)],x0.2):OR)) (get ρ 0) (get ρ 1):=zr
@[go_sem] theorem ZU:rc D b Pu ρ s=(fun v0 v1 v5=>(aa (ab .eql v5 (.int .i64 0)) fun x0=>some (.normal,[(0,v0),(1,v1),(5,v5),(10,x0)],s):OR)) (get ρ 0) (get ρ 1) (get ρ 5):=zr
@[go_sem] theorem af9:rc D b JC ρ s=(fun v0 v1 v5=>(aa (ai v0) fun x0=>aa (ae 80 2 78 x0) fun x1=>aa (rf D aT [x1,v1] s) fun x2=>some (.normal,[(5,v5)],x2.2):OR)) (get ρ 0) (get ρ 1) (get ρ 5):=zr
@[go_sem] theorem aeh:rc D b IH ρ s=(fun v5=>(some (.normal,[(4,v5)],s):OR)) (get ρ 5):=zr
@[go_sem] theorem afo:rc D b M9 ρ s=(fun v0=>(if V.ok v0 && ap false v0 then let x0:V:=.ptr (St.fresh s false) [] (V.tag v0); let s0:St:=St.new s false v0; let x1:V:=.ptr (St.fresh s0 false) [] 42; let s1:St:=St.new s0 false (.agg 42 [(.int .i64 0),(.int .i64 0),(.int .i64 0)]); some (.normal,[(1,x0),(2,x1)],s1) else none:OR)) (get ρ 0):=zr
@[go_sem] theorem agn:rc D b Qw ρ s=(fun v1 v2=>(aa (ae 42 0 10 v1) fun x0=>aa (ldv s 10 x0) fun x1=>aa (ab .eql x1 (.int .i64 0)) fun x2=>some (.normal,[(1,v1),(2,v2),(6,x2)],s):OR)) (get ρ 1) (get ρ 2):=zr
@[go_sem] theorem abl:rc D b PC ρ s=(fun v2=>(aa (aj [(.int .i64 0),(.int .i64 0),(.int .i64 0)] []) fun x0=>aa (stv b s 42 (.agg 42 x0) v2) fun s1=>some (.normal,[(2,v2),(3,(.int .i64 30))],s1):OR)) (get ρ 2):=zr
@[go_sem] theorem adp:rc D b K5 ρ s=(fun v1 v2=>(aa (ae 42 1 10 v1) fun x0=>aa (ldv s 10 x0) fun x1=>aa (ae 42 1 10 v1) fun x2=>aa (ldv s 10 x2) fun x3=>aa (ab .sub (.int .i64 16777215) x3) fun x4=>aa (iT false (.int .i64 1) x4) fun x5=>aa (ab .add x1 x5) fun x6=>aa (aj [(.int .i64 0),(.int .i64 0),(.int .i64 0)] [(1,x6)]) fun x7=>aa (stv b s 42 (.agg 42 x7) v2) fun s8=>some (.normal,[(2,v2),(3,(.int .i64 0))],s8):OR)) (get ρ 1) (get ρ 2):=zr
@[go_sem] theorem acY:rc D b ON ρ s=(fun v0=>(some (.normal,[(0,v0)],s):OR)) (get ρ 0):=zr
@[go_sem] theorem adj:rc D b Mw ρ s=(fun v0=>(aa (ab .shr v0 (.int .u64 1)) fun x0=>aa (ab .and x0 (.int .u64 6148914691236517205)) fun x1=>aa (ab .and v0 (.int .u64 6148914691236517205)) fun x2=>aa (ab .add x1 x2) fun x3=>some (.normal,[(0,x3)],s):OR)) (get ρ 0):=zr
@[go_sem] theorem acl:rc D b Mh ρ s=(fun v0=>(aa (ab .shr v0 (.int .u64 2)) fun x0=>aa (ab .and x0 (.int .u64 3689348814741910323)) fun x1=>aa (ab .and v0 (.int .u64 3689348814741910323)) fun x2=>aa (ab .add x1 x2) fun x3=>some (.normal,[(0,x3)],s):OR)) (get ρ 0):=zr
@[go_sem] theorem acd:rc D b Il ρ s=(fun v0=>(aa (ab .shr v0 (.int .u64 4)) fun x0=>aa (ab .add x0 v0) fun x1=>aa (ab .and x1 (.int .u64 1085102592571150095)) fun x2=>some (.normal,[(0,x2)],s):OR)) (get ρ 0):=zr
@[go_sem] theorem YT:rc D b QX ρ s=(fun v0=>(aa (ab .shr v0 (.int .u64 8)) fun x0=>aa (ab .add v0 x0) fun x1=>some (.normal,[(0,x1)],s):OR)) (get ρ 0):=zr
@[go_sem] theorem Ys:rc D b Pd ρ s=(fun v0=>(aa (ab .shr v0 (.int .u64 16)) fun x0=>aa (ab .add v0 x0) fun x1=>some (.normal,[(0,x1)],s):OR)) (get ρ 0):=zr
@[go_sem] theorem agL:rc D b QY ρ s=(fun v0=>(aa (ab .shr v0 (.int .u64 32)) fun x0=>aa (ab .add v0 x0) fun x1=>some (.normal,[(0,x1)],s):OR)) (get ρ 0):=zr
@[go_sem] theorem abN:rc D b Jk ρ s=(fun v0=>(aa (cX .i64 v0) fun x0=>aa (ab .and x0 (.int .i64 127)) fun x1=>some (.normal,[(2,x1)],s):OR)) (get ρ 0):=zr
@[go_sem] theorem ZO:rc D b QG ρ s=(fun v0=>(some (.normal,[(0,v0)],s):OR)) (get ρ 0):=zr
@[go_sem] theorem aae:rc D b IV ρ s=(fun v0=>(aa (ab .eql v0 (.int .u64 0)) fun x0=>some (.normal,[(0,v0),(4,x0)],s):OR)) (get ρ 0):=zr
@[go_sem] theorem YY:rc D b K2 ρ s= some (.normal,[(2,(.int .i64 64))],s):=zr
@[go_sem] theorem ach:rc D b KR ρ s=(fun v0=>(aa (vun .neg v0) fun x0=>aa (ab .and v0 x0) fun x1=>aa (ab .mul x1 (.int .u64 285870213051353865)) fun x2=>aa (ab .shr x2 (.int .u64 58)) fun x3=>aa (aX 108 64 12 wv x3) fun x4=>aa (ldv s 12 x4) fun x5=>aa (cX .i64 x5) fun x6=>some (.normal,[(2,x6)],s):OR)) (get ρ 0):=zr
@[go_sem] theorem YW:rc D b Lb ρ s=(fun v0 v1=>(aa (ab .quo v1 (.int .i64 64)) fun x0=>aa (ai v0) fun x1=>aa (aX 78 16 18 x1 x0) fun x2=>aa (ldv s 18 x2) fun x3=>aa (ab .rem v1 (.int .i64 64)) fun x4=>aa (ab .shl (.int .u64 1) x4) fun x5=>aa (ab .xor x3 x5) fun x6=>aa (ai v0) fun x7=>aa (aX 78 16 18 x7 x0) fun x8=>aa (stv b s 18 x6 x8) fun s9=>some (.normal,[],s9):OR)) (get ρ 0) (get ρ 1):=zd
@[go_sem] theorem ac0:rc D b Ny ρ s=(fun v0 v1 v2=>(some (.normal,[(0,v0),(1,v1),(2,v2)],s):OR)) (get ρ 0) (get ρ 1) (get ρ 2):=zr
@[go_sem] theorem aaQ:rc D b NO ρ s=(fun v0 v1 v2=>(aa (rf D cv [v0,v2] s) fun x0=>some (.normal,[(0,v0),(1,v1),(7,x0.1)],x0.2):OR)) (get ρ 0) (get ρ 1) (get ρ 2):=zr
@[go_sem] theorem aaG:rc D b NL ρ s=(fun v0 v1 v7=>(aa (eqv false 1 v7 .nilp) fun x0=>ao x0 false (aa (ab .lss v1 (.int .i64 0)) fun x1=>ao x1 false (aa (ab .geq v1 (.int .i64 8)) fun x2=>some (.normal,[(0,v0),(1,v1),(7,v7),(21,x2)],s)) (some (.normal,[(0,v0),(1,v1),(7,v7),(21,(.bool true))],s)) (none)) (some (.normal,[(0,v0),(1,v1),(7,v7),(21,(.bool true))],s)) (none):OR)) (get ρ 0) (get ρ 1) (get ρ 7):=zr
@[go_sem] theorem afj:rc D b PW ρ s= some (.normal,[(6,(.int .i64 1))],s):=zr
@[go_sem] theorem ab9:rc D b N7 ρ s=(fun v0 v1 v7=>(aa (rf D a8 [v0] s) fun x0=>some (.normal,[(1,v1),(7,v7),(8,x0.1)],x0.2):OR)) (get ρ 0) (get ρ 1) (get ρ 7):=zr
@[go_sem] theorem abY:rc D b Nz ρ s=(fun v1 v7 v8=>(aa (ab .neq v8 (.int .i64 0)) fun x0=>some (.normal,[(1,v1),(7,v7),(8,v8),(25,x0)],s):OR)) (get ρ 1) (get ρ 7) (get ρ 8):=zr
@[go_sem] theorem acK:rc D b NU ρ s=(fun v8=>(some (.normal,[(6,v8)],s):OR)) (get ρ 8):=zr
@[go_sem] theorem acE:rc D b Ko ρ s=(fun v1 v7=>(aa (ai v7) fun x0=>aa (ae 55 2 1 x0) fun x1=>aa (ldv s 1 x1) fun x2=>aa (V.slen false x2) fun x3=>aa (ai v7) fun x4=>aa (ae 55 3 50 x4) fun x5=>aa (aX 50 8 10 x5 v1) fun x6=>aa (stv b s 10 (.int .i64 x3) x6) fun s7=>some (.normal,[],s7):OR)) (get ρ 1) (get ρ 7):=zd
@[go_sem] theorem aeE:rc D b OF ρ s= some (.normal,[(6,(.int .i64 0))],s):=zr
@[go_sem] theorem ZC:rc D b It ρ s=(fun v0 v1=>(if V.ok v0 && ap false v0 then let x0:V:=.ptr (St.fresh s false) [] (V.tag v0); let s0:St:=St.new s false v0; let x1:V:=.ptr (St.fresh s0 false) [] 24; let s1:St:=St.new s0 false (.agg 24 (List.replicate 8 (.int .u64 0))); some (.normal,[(1,v1),(2,x0),(4,x1)],s1) else none:OR)) (get ρ 0) (get ρ 1):=zr
@[go_sem] theorem aaB:rc D b Og ρ s=(fun v1 v2 v4=>(aa (ab .lss v1 (.int .i64 0)) fun x0=>ao x0 false (aa (ab .geq v1 (.int .i64 7)) fun x1=>some (.normal,[(1,v1),(2,v2),(4,v4),(15,x1)],s)) (some (.normal,[(1,v1),(2,v2),(4,v4),(15,(.bool true))],s)) (none):OR)) (get ρ 1) (get ρ 2) (get ρ 4):=zr
@[go_sem] theorem afr:rc D b Md ρ s=(fun v4=>(aa (aj (List.replicate 8 (.int .u64 0)) []) fun x0=>aa (stv b s 24 (.agg 24 x0) v4) fun s1=>some (.normal,[(4,v4),(5,(.int .i64 1))],s1):OR)) (get ρ 4):=zr
@[go_sem] theorem aeJ:rc D b Jf ρ s=(fun v1 v2 v4=>(let x0:V:=.ptr (St.fresh s false) [] 24; let s0:St:=St.new s false (.agg 24 (List.replicate 8 (.int .u64 0))); some (.normal,[(1,v1),(2,v2),(4,v4),(6,x0)],s0):OR)) (get ρ 1) (get ρ 2) (get ρ 4):=zr
@[go_sem] theorem aak:rc D b Ik ρ s=(fun v1 v2 v4 v6=>(some (.normal,[(1,v1),(2,v2),(4,v4),(6,v6),(17,(.int .i64 0))],s):OR)) (get ρ 1) (get ρ 2) (get ρ 4) (get ρ 6):=zr
@[go_sem] theorem aa8:rc D b JU ρ s=(fun v1 v2 v4 v6 v17=>(aa (ab .lss v17 (.int .i64 7)) fun x0=>some (.normal,[(1,v1),(2,v2),(4,v4),(6,v6),(17,v17),(18,x0)],s):OR)) (get ρ 1) (get ρ 2) (get ρ 4) (get ρ 6) (get ρ 17):=zr
@[go_sem] theorem Zi:rc D b Ke ρ s=(fun v1 v2 v4 v6 v17=>(some (.normal,[(1,v1),(2,v2),(4,v4),(6,v6),(7,v17),(17,v17)],s):OR)) (get ρ 1) (get ρ 2) (get ρ 4) (get ρ 6) (get ρ 17):=zr
@[go_sem] theorem adB:rc D b OG ρ s=(fun v1 v2 v4 v6 v7 v17=>(aa (ab .mul (.int .i64 7) v1) fun x0=>aa (ab .add x0 v7) fun x1=>aa (aX 48 49 42 v2 x1) fun x2=>aa (ldv s 42 x2) fun x3=>aa (rf D j6 [x3] s) fun x4=>aa (aF 0 x4.1) fun x5=>aa (aF 1 x4.1) fun x6=>some (.normal,[(1,v1),(2,v2),(4,v4),(6,v6),(7,v7),(8,x5),(9,x6),(17,v17)],x4.2):OR)) (get ρ 1) (get ρ 2) (get ρ 4) (get ρ 6) (get ρ 7) (get ρ 17):=zr
@[go_sem] theorem aaR:rc D b NB ρ s=(fun v1 v2 v4 v6 v7 v8 v9 v17=>(aa (ab .neq v9 (.int .i64 0)) fun x0=>some (.normal,[(1,v1),(2,v2),(4,v4),(6,v6),(7,v7),(8,v8),(9,v9),(17,v17),(31,x0)],s):OR)) (get ρ 1) (get ρ 2) (get ρ 4) (get ρ 6) (get ρ 7) (get ρ 8) (get ρ 9) (get ρ 17):=zr
@[go_sem] theorem afE:rc D b M7 ρ s=(fun v4 v9=>(aa (aj (List.replicate 8 (.int .u64 0)) []) fun x0=>aa (stv b s 24 (.agg 24 x0) v4) fun s1=>some (.normal,[(4,v4),(5,v9)],s1):OR)) (get ρ 4) (get ρ 9):=zr
@[go_sem] theorem Wz:rc D b CN ρ s=(fun v1 v2 v4 v6 v7 v8 v17=>(aa (aX 24 8 18 v6 v7) fun x0=>aa (stv b s 18 v8 x0) fun s1=>some (.normal,[(1,v1),(2,v2),(4,v4),(6,v6),(17,v17)],s1):OR)) (get ρ 1) (get ρ 2) (get ρ 4) (get ρ 6) (get ρ 7) (get ρ 8) (get ρ 17):=zr
@[go_sem] theorem XT:rc D b EU ρ s=(fun v1 v2 v4 v6 v17=>(aa (ab .add v17 (.int .i64 1)) fun x0=>some (.normal,[(1,v1),(2,v2),(4,v4),(6,v6),(17,x0)],s):OR)) (get ρ 1) (get ρ 2) (get ρ 4) (get ρ 6) (get ρ 17):=zr
@[go_sem] theorem WX:rc D b Ef ρ s=(fun v4 v6=>(aa (ldv s 24 v6) fun x0=>aa (rf D fR [x0] s) fun x1=>aa (stv b x1.2 24 x1.1 v4) fun s2=>some (.normal,[(4,v4),(5,(.int .i64 0))],s2):OR)) (get ρ 4) (get ρ 6):=zr
@[go_sem] theorem Yw:rc D b O6 ρ s=(fun v0 v1 v2=>(if V.ok v1 && ap false v1 then let x0:V:=.ptr (St.fresh s false) [] (V.tag v1); let s0:St:=St.new s false v1; some (.normal,[(0,v0),(2,v2),(4,x0)],s0) else none:OR)) (get ρ 0) (get ρ 1) (get ρ 2):=zr
@[go_sem] theorem ZE:rc D b OO ρ s=(fun v0 v2 v4=>(aa (ai v0) fun x0=>aa (ae 61 1 1 x0) fun x1=>aa (ldv s 1 x1) fun x2=>aa (rf D ep [x2] s) fun x3=>aa (aF 0 x3.1) fun x4=>aa (aF 1 x3.1) fun x5=>some (.normal,[(0,v0),(2,v2),(4,v4),(7,x4),(8,x5)],x3.2):OR)) (get ρ 0) (get ρ 2) (get ρ 4):=zr
@[go_sem] theorem ack:rc D b OQ ρ s=(fun v0 v2 v4 v7 v8=>(aa (ab .neq v8 (.int .i64 0)) fun x0=>some (.normal,[(0,v0),(2,v2),(4,v4),(7,v7),(8,v8),(22,x0)],s):OR)) (get ρ 0) (get ρ 2) (get ρ 4) (get ρ 7) (get ρ 8):=zr
@[go_sem] theorem afZ:rc D b Kp ρ s=(fun v8=>(some (.normal,[(6,v8)],s):OR)) (get ρ 8):=zr
@[go_sem] theorem aaW:rc D b NC ρ s=(fun v0 v2 v4 v7=>(aa (ldv s 24 v4) fun x0=>some (.normal,[(0,v0),(2,v2),(7,v7),(24,x0),(25,(.int .i64 0))],s):OR)) (get ρ 0) (get ρ 2) (get ρ 4) (get ρ 7):=zr
@[go_sem] theorem agC:rc D b Mn ρ s=(fun v0 v2 v7 v24 v25=>(aa (ab .lss v25 (.int .i64 8)) fun x0=>some (.normal,[(0,v0),(2,v2),(7,v7),(24,v24),(25,v25),(26,x0)],s):OR)) (get ρ 0) (get ρ 2) (get ρ 7) (get ρ 24) (get ρ 25):=zr
@[go_sem] theorem abO:rc D b IA ρ s=(fun v0 v2 v7 v24 v25=>(aa (ib 24 8 v24 v25) fun x0=>some (.normal,[(0,v0),(2,v2),(7,v7),(9,v25),(10,x0),(24,v24),(25,v25)],s):OR)) (get ρ 0) (get ρ 2) (get ρ 7) (get ρ 24) (get ρ 25):=zr
@[go_sem] theorem aeq:rc D b Iu ρ s=(fun v0 v2 v7 v9 v10 v24 v25=>(aa (ai v0) fun x0=>aa (ae 61 0 1 x0) fun x1=>aa (ldv s 1 x1) fun x2=>aa (rf D aV [x2,v7,v9,v10] s) fun x3=>some (.normal,[(0,v0),(2,v2),(7,v7),(11,x3.1),(24,v24),(25,v25)],x3.2):OR)) (get ρ 0) (get ρ 2) (get ρ 7) (get ρ 9) (get ρ 10) (get ρ 24) (get ρ 25):=zr
@[go_sem] theorem aeB:rc D b O7 ρ s=(fun v0 v2 v7 v11 v24 v25=>(aa (ab .neq v11 (.int .i64 0)) fun x0=>some (.normal,[(0,v0),(2,v2),(7,v7),(11,v11),(24,v24),(25,v25),(38,x0)],s):OR)) (get ρ 0) (get ρ 2) (get ρ 7) (get ρ 11) (get ρ 24) (get ρ 25):=zr
@[go_sem] theorem age:rc D b IB ρ s=(fun v11=>(some (.normal,[(6,v11)],s):OR)) (get ρ 11):=zr
@[go_sem] theorem Xb:rc D b DX ρ s=(fun v0 v2 v7 v24 v25=>(aa (ab .add v25 (.int .i64 1)) fun x0=>some (.normal,[(0,v0),(2,v2),(7,v7),(24,v24),(25,x0)],s):OR)) (get ρ 0) (get ρ 2) (get ρ 7) (get ρ 24) (get ρ 25):=zr
@[go_sem] theorem WF:rc D b DN ρ s=(fun v0 v2 v7=>(aa (rf D bM [v0,v7] s) fun x0=>some (.normal,[(2,v2),(7,v7),(12,x0.1)],x0.2):OR)) (get ρ 0) (get ρ 2) (get ρ 7):=zr
@[go_sem] theorem WE:rc D b DG ρ s=(fun v2 v7 v12=>(aa (ab .neq v12 (.int .i64 0)) fun x0=>some (.normal,[(2,v2),(7,v7),(12,v12),(45,x0)],s):OR)) (get ρ 2) (get ρ 7) (get ρ 12):=zr
@[go_sem] theorem WY:rc D b DT ρ s=(fun v12=>(some (.normal,[(6,v12)],s):OR)) (get ρ 12):=zr
@[go_sem] theorem XB:rc D b CW ρ s=(fun v2 v7=>(aa (ai v2) fun x0=>aa (stv b s 10 v7 x0) fun s1=>some (.normal,[],s1):OR)) (get ρ 2) (get ρ 7):=zr
@[go_sem] theorem WD:rc D b De ρ s= some (.normal,[(6,(.int .i64 0))],s):=zr
@[go_sem] theorem agb:rc D b Ps ρ s=(fun v0=>(if V.ok v0 && ap false v0 then let x0:V:=.ptr (St.fresh s false) [] (V.tag v0); let s0:St:=St.new s false v0; let x1:V:=.ptr (St.fresh s0 false) [] 24; let s1:St:=St.new s0 false (.agg 24 (List.replicate 8 (.int .u64 0))); some (.normal,[(1,x0),(2,x1)],s1) else none:OR)) (get ρ 0):=zr
@[go_sem] theorem agw:rc D b LZ ρ s=(fun v1 v2=>(let x0:V:=.ptr (St.fresh s false) [] 24; let s0:St:=St.new s false (.agg 24 (List.replicate 8 (.int .u64 0))); some (.normal,[(1,v1),(2,v2),(4,x0)],s0):OR)) (get ρ 1) (get ρ 2):=zr
@[go_sem] theorem afS:rc D b Mc ρ s=(fun v1 v2 v4=>(aa (ldv s 60 v1) fun x0=>some (.normal,[(2,v2),(4,v4),(7,x0),(8,(.int .i64 0))],s):OR)) (get ρ 1) (get ρ 2) (get ρ 4):=zr
@[go_sem] theorem agj:rc D b MP ρ s=(fun v2 v4 v7 v8=>(aa (ab .lss v8 (.int .i64 7)) fun x0=>some (.normal,[(2,v2),(4,v4),(7,v7),(8,v8),(9,x0)],s):OR)) (get ρ 2) (get ρ 4) (get ρ 7) (get ρ 8):=zr
@[go_sem] theorem aaw:rc D b PN ρ s=(fun v2 v4 v7 v8=>(aa (ib 60 7 v7 v8) fun x0=>some (.normal,[(2,v2),(4,v4),(5,v8),(6,x0),(7,v7),(8,v8)],s):OR)) (get ρ 2) (get ρ 4) (get ρ 7) (get ρ 8):=zr
@[go_sem] theorem af2:rc D b Jh ρ s=(fun v2 v4 v5 v6 v7 v8=>(aa (ab .lss v6 (.int .i64 0)) fun x0=>ao x0 false (aa (ab .geq v6 (.int .i64 1024)) fun x1=>some (.normal,[(2,v2),(4,v4),(5,v5),(6,v6),(7,v7),(8,v8),(17,x1)],s)) (some (.normal,[(2,v2),(4,v4),(5,v5),(6,v6),(7,v7),(8,v8),(17,(.bool true))],s)) (none):OR)) (get ρ 2) (get ρ 4) (get ρ 5) (get ρ 6) (get ρ 7) (get ρ 8):=zr
@[go_sem] theorem adG:rc D b Pc ρ s=(fun v2=>(aa (aj (List.replicate 8 (.int .u64 0)) []) fun x0=>aa (stv b s 24 (.agg 24 x0) v2) fun s1=>some (.normal,[(2,v2),(3,(.int .i64 1))],s1):OR)) (get ρ 2):=zr
@[go_sem] theorem abm:rc D b K1 ρ s=(fun v2 v4 v5 v6 v7 v8=>(aa (cX .u64 v6) fun x0=>aa (ab .or (.int .u64 4294967296) x0) fun x1=>aa (aX 24 8 18 v4 v5) fun x2=>aa (stv b s 18 x1 x2) fun s3=>some (.normal,[(2,v2),(4,v4),(7,v7),(8,v8)],s3):OR)) (get ρ 2) (get ρ 4) (get ρ 5) (get ρ 6) (get ρ 7) (get ρ 8):=zr
@[go_sem] theorem ag1:rc D b Ig ρ s=(fun v2 v4 v7 v8=>(aa (ab .add v8 (.int .i64 1)) fun x0=>some (.normal,[(2,v2),(4,v4),(7,v7),(8,x0)],s):OR)) (get ρ 2) (get ρ 4) (get ρ 7) (get ρ 8):=zr
@[go_sem] theorem agy:rc D b NZ ρ s=(fun v2 v4=>(aa (ldv s 24 v4) fun x0=>aa (rf D fR [x0] s) fun x1=>aa (stv b x1.2 24 x1.1 v2) fun s2=>some (.normal,[(2,v2),(3,(.int .i64 0))],s2):OR)) (get ρ 2) (get ρ 4):=zr
@[go_sem] theorem aek:rc D b OC ρ s=(fun v0 v1=>(some (.normal,[(0,v0),(1,v1)],s):OR)) (get ρ 0) (get ρ 1):=zr
@[go_sem] theorem agB:rc D b J0 ρ s=(fun v0 v1=>(aa (ab .lss v1 (.int .i64 0)) fun x0=>ao x0 false (aa (ab .geq v1 (.int .i64 8)) fun x1=>some (.normal,[(0,v0),(1,v1),(13,x1)],s)) (some (.normal,[(0,v0),(1,v1),(13,(.bool true))],s)) (none):OR)) (get ρ 0) (get ρ 1):=zr
@[go_sem] theorem YB:rc D b N4 ρ s= some (.normal,[(4,(.int .i64 1))],s):=zr
@[go_sem] theorem ab3:rc D b Ie ρ s=(fun v0 v1=>(aa (rf D a8 [v0] s) fun x0=>some (.normal,[(0,v0),(1,v1),(5,x0.1)],x0.2):OR)) (get ρ 0) (get ρ 1):=zr
@[go_sem] theorem afR:rc D b KK ρ s=(fun v0 v1 v5=>(aa (ab .neq v5 (.int .i64 0)) fun x0=>some (.normal,[(0,v0),(1,v1),(5,v5),(17,x0)],s):OR)) (get ρ 0) (get ρ 1) (get ρ 5):=zr
@[go_sem] theorem aab:rc D b QK ρ s=(fun v5=>(some (.normal,[(4,v5)],s):OR)) (get ρ 5):=zr
@[go_sem] theorem ab1:rc D b Mt ρ s=(fun v0 v1=>(aa (ai v0) fun x0=>aa (ae 59 0 1 x0) fun x1=>aa (ldv s 1 x1) fun x2=>aa (V.slen false x2) fun x3=>some (.normal,[(0,v0),(1,v1),(23,(.int .i64 x3)),(24,(.int .i64 0))],s):OR)) (get ρ 0) (get ρ 1):=zr
@[go_sem] theorem ag3:rc D b Nb ρ s=(fun v0 v1 v23 v24=>(aa (ab .lss v24 v23) fun x0=>some (.normal,[(0,v0),(1,v1),(23,v23),(24,v24),(25,x0)],s):OR)) (get ρ 0) (get ρ 1) (get ρ 23) (get ρ 24):=zr
@[go_sem] theorem aeZ:rc D b Ji ρ s=(fun v0 v1 v23 v24=>(some (.normal,[(0,v0),(1,v1),(6,v24),(23,v23),(24,v24)],s):OR)) (get ρ 0) (get ρ 1) (get ρ 23) (get ρ 24):=zr
@[go_sem] theorem abZ:rc D b OT ρ s=(fun v0 v1 v6 v23 v24=>(aa (ai v0) fun x0=>aa (ae 59 0 1 x0) fun x1=>aa (ldv s 1 x1) fun x2=>aa (ef 55 x2 v6) fun x3=>some (.normal,[(0,v0),(1,v1),(7,x3),(23,v23),(24,v24)],s):OR)) (get ρ 0) (get ρ 1) (get ρ 6) (get ρ 23) (get ρ 24):=zr
@[go_sem] theorem XG:rc D b DY ρ s=(fun v0 v1 v7 v23 v24=>(aa (ai v7) fun x0=>aa (ae 55 3 50 x0) fun x1=>aa (aX 50 8 10 x1 v1) fun x2=>aa (ldv s 10 x2) fun x3=>aa (ab .gtr x3 (.int .i64 0)) fun x4=>some (.normal,[(0,v0),(1,v1),(7,v7),(23,v23),(24,v24),(39,x4)],s):OR)) (get ρ 0) (get ρ 1) (get ρ 7) (get ρ 23) (get ρ 24):=zr
@[go_sem] theorem W9:rc D b Fd ρ s=(fun v0 v1 v7 v23 v24=>(aa (ai v7) fun x0=>aa (ae 55 3 50 x0) fun x1=>aa (aX 50 8 10 x1 v1) fun x2=>aa (ldv s 10 x2) fun x3=>aa (rf D eZ [v7,x3] s) fun x4=>some (.normal,[(0,v0),(1,v1),(23,v23),(24,v24)],x4.2):OR)) (get ρ 0) (get ρ 1) (get ρ 7) (get ρ 23) (get ρ 24):=zr
@[go_sem] theorem WP:rc D b EO ρ s=(fun v0 v1 v23 v24=>(aa (ab .add v24 (.int .i64 1)) fun x0=>some (.normal,[(0,v0),(1,v1),(23,v23),(24,x0)],s):OR)) (get ρ 0) (get ρ 1) (get ρ 23) (get ρ 24):=zr
@[go_sem] theorem XQ:rc D b EZ ρ s= some (.normal,[(4,(.int .i64 0))],s):=zr
@[go_sem] theorem aa2:rc D b QI ρ s=(fun v0 v1 v2 v3=>(if V.ok v3 && ap false v3 then let x0:V:=.ptr (St.fresh s false) [] (V.tag v3); let s0:St:=St.new s false v3; some (.normal,[(0,v0),(1,v1),(2,v2),(7,x0)],s0) else none:OR)) (get ρ 0) (get ρ 1) (get ρ 2) (get ρ 3):=zr
@[go_sem] theorem acu:rc D b JF ρ s=(fun v0 v1 v2 v7=>(aa (ldv s 44 v7) fun x0=>aa (rf D jU [x0] s) fun x1=>aa (aF 0 x1.1) fun x2=>aa (aF 1 x1.1) fun x3=>let x4:V:=.ptr (St.fresh x1.2 false) [] 24; let s4:St:=St.new x1.2 false (.agg 24 (List.replicate 8 (.int .u64 0))); aa (stv b s4 24 x2 x4) fun s5=>some (.normal,[(0,v0),(1,v1),(2,v2),(9,x4),(10,x3)],s5):OR)) (get ρ 0) (get ρ 1) (get ρ 2) (get ρ 7):=zr
@[go_sem] theorem ae1:rc D b QS ρ s=(fun v0 v1 v2 v9 v10=>(aa (ab .neq v10 (.int .i64 0)) fun x0=>ao x0 false (aa (ab .neq v2 (.int .i64 0)) fun x1=>ao x1 true (aa (ab .neq v2 (.int .i64 1)) fun x2=>some (.normal,[(0,v0),(1,v1),(2,v2),(9,v9),(30,x2)],s)) (some (.normal,[(0,v0),(1,v1),(2,v2),(9,v9),(30,(.bool false))],s)) (none)) (some (.normal,[(0,v0),(1,v1),(2,v2),(9,v9),(30,(.bool true))],s)) (none):OR)) (get ρ 0) (get ρ 1) (get ρ 2) (get ρ 9) (get ρ 10):=zr
@[go_sem] theorem aeK:rc D b Jv ρ s= some (.normal,[(8,(.int .i64 1))],s):=zr
@[go_sem] theorem Yk:rc D b Pj ρ s=(fun v0 v1 v2 v9=>(aa (rf D aV [v0,v2,(.int .i64 7),(.int .u64 0)] s) fun x0=>some (.normal,[(0,v0),(1,v1),(2,v2),(9,v9),(11,x0.1)],x0.2):OR)) (get ρ 0) (get ρ 1) (get ρ 2) (get ρ 9):=zr
@[go_sem] theorem ZV:rc D b Km ρ s=(fun v0 v1 v2 v9 v11=>(aa (ab .neq v11 (.int .i64 0)) fun x0=>some (.normal,[(0,v0),(1,v1),(2,v2),(9,v9),(11,v11),(35,x0)],s):OR)) (get ρ 0) (get ρ 1) (get ρ 2) (get ρ 9) (get ρ 11):=zr
@[go_sem] theorem aeC:rc D b K8 ρ s=(fun v11=>(some (.normal,[(8,v11)],s):OR)) (get ρ 11):=zr
@[go_sem] theorem Zs:rc D b Kw ρ s=(fun v0 v1 v2 v9=>(aa (ldv s 24 v9) fun x0=>some (.normal,[(0,v0),(1,v1),(2,v2),(37,x0),(38,(.int .i64 0))],s):OR)) (get ρ 0) (get ρ 1) (get ρ 2) (get ρ 9):=zr
@[go_sem] theorem YP:rc D b Pe ρ s=(fun v0 v1 v2 v37 v38=>(aa (ab .lss v38 (.int .i64 8)) fun x0=>some (.normal,[(0,v0),(1,v1),(2,v2),(37,v37),(38,v38),(39,x0)],s):OR)) (get ρ 0) (get ρ 1) (get ρ 2) (get ρ 37) (get ρ 38):=zr
@[go_sem] theorem af5:rc D b Jt ρ s=(fun v0 v1 v2 v37 v38=>(aa (ib 24 8 v37 v38) fun x0=>some (.normal,[(0,v0),(1,v1),(2,v2),(12,v38),(13,x0),(37,v37),(38,v38)],s):OR)) (get ρ 0) (get ρ 1) (get ρ 2) (get ρ 37) (get ρ 38):=zr
@[go_sem] theorem XO:rc D b Ev ρ s=(fun v0 v1 v2 v12 v13 v37 v38=>(aa (rf D aV [v0,v2,v12,v13] s) fun x0=>some (.normal,[(0,v0),(1,v1),(2,v2),(14,x0.1),(37,v37),(38,v38)],x0.2):OR)) (get ρ 0) (get ρ 1) (get ρ 2) (get ρ 12) (get ρ 13) (get ρ 37) (get ρ 38):=zr
@[go_sem] theorem WN:rc D b EA ρ s=(fun v0 v1 v2 v14 v37 v38=>(aa (ab .neq v14 (.int .i64 0)) fun x0=>some (.normal,[(0,v0),(1,v1),(2,v2),(14,v14),(37,v37),(38,v38),(48,x0)],s):OR)) (get ρ 0) (get ρ 1) (get ρ 2) (get ρ 14) (get ρ 37) (get ρ 38):=zr
@[go_sem] theorem WS:rc D b CX ρ s=(fun v14=>(some (.normal,[(8,v14)],s):OR)) (get ρ 14):=zr
@[go_sem] theorem Xa:rc D b Fs ρ s=(fun v0 v1 v2 v37 v38=>(aa (ab .add v38 (.int .i64 1)) fun x0=>some (.normal,[(0,v0),(1,v1),(2,v2),(37,v37),(38,x0)],s):OR)) (get ρ 0) (get ρ 1) (get ρ 2) (get ρ 37) (get ρ 38):=zr
@[go_sem] theorem WK:rc D b B7 ρ s=(fun v0 v1 v2=>(aa (rf D cQ [v0,v1,v2] s) fun x0=>some (.normal,[(0,v0),(1,v1),(15,x0.1)],x0.2):OR)) (get ρ 0) (get ρ 1) (get ρ 2):=zr
@[go_sem] theorem Xp:rc D b E4 ρ s=(fun v0 v1 v15=>(aa (ab .neq v15 (.int .i64 0)) fun x0=>some (.normal,[(0,v0),(1,v1),(15,v15),(56,x0)],s):OR)) (get ρ 0) (get ρ 1) (get ρ 15):=zr
@[go_sem] theorem W0:rc D b EY ρ s=(fun v15=>(some (.normal,[(8,v15)],s):OR)) (get ρ 15):=zr
@[go_sem] theorem Wx:rc D b E3 ρ s=(fun v0 v1=>(aa (rf D cO [v0,v1] s) fun x0=>some (.normal,[(8,x0.1)],x0.2):OR)) (get ρ 0) (get ρ 1):=zr
@[go_sem] theorem acj:rc D b Nh ρ s=(fun v0 v1=>(if V.ok v1 && ap false v1 then let x0:V:=.ptr (St.fresh s false) [] (V.tag v1); let s0:St:=St.new s false v1; some (.normal,[(0,v0),(3,x0)],s0) else none:OR)) (get ρ 0) (get ρ 1):=zr
@[go_sem] theorem aeY:rc D b PA ρ s=(fun v0 v3=>(aa (ai v0) fun x0=>aa (ae 43 6 0 x0) fun x1=>aa (ldv s 0 x1) fun x2=>aa (vun .not x2) fun x3=>some (.normal,[(0,v0),(3,v3),(9,x3)],s):OR)) (get ρ 0) (get ρ 3):=zr
@[go_sem] theorem ace:rc D b M8 ρ s= some (.normal,[(4,(.int .i64 3))],s):=zr
@[go_sem] theorem agO:rc D b Mu ρ s=(fun v0 v3=>(aa (ai v0) fun x0=>aa (ae 43 5 48 x0) fun x1=>aa (ldv s 48 x1) fun x2=>aa (ldv s 50 v3) fun x3=>aa (ai v0) fun x4=>aa (ae 43 3 48 x4) fun x5=>aa (oN b s 48 x2 x5 [v3]) fun s6=>aa (ai v0) fun x7=>aa (ae 43 4 50 x7) fun x8=>aa (stv b s6 50 x3 x8) fun s9=>some (.normal,[(0,v0)],s9):OR)) (get ρ 0) (get ρ 3):=zd
@[go_sem] theorem agr:rc D b PQ ρ s=(fun v0=>(aa (rf D bJ [v0] s) fun x0=>some (.normal,[],x0.2):OR)) (get ρ 0):=zr
@[go_sem] theorem Yq:rc D b NJ ρ s= some (.normal,[(4,(.int .i64 0))],s):=zr
@[go_sem] theorem afi:rc D b LC ρ s=(fun v0=>(aa (ai v0) fun x0=>aa (ae 43 6 0 x0) fun x1=>aa (stv b s 0 (.bool false) x1) fun s2=>some (.normal,[(0,v0)],s2):OR)) (get ρ 0):=zr
@[go_sem] theorem aaO:rc D b Ms ρ s=(fun v0=>(aa (rf D bi [v0] s) fun x0=>some (.normal,[(0,v0)],x0.2):OR)) (get ρ 0):=zr
@[go_sem] theorem aeW:rc D b Li ρ s=(fun v0=>(aa (ai v0) fun x0=>aa (ae 43 7 82 x0) fun x1=>aa (ldv s 82 x1) fun x2=>let x3:V:=.ptr (St.fresh s false) [] 82; let s3:St:=St.new s false (.agg 82 (List.replicate 1024 (.bool false))); aa (stv b s3 82 x2 x3) fun s4=>some (.normal,[(0,v0),(2,x3)],s4):OR)) (get ρ 0):=zr
@[go_sem] theorem adR:rc D b K0 ρ s=(fun v0 v2=>(aa (ai v0) fun x0=>aa (ae 43 2 48 x0) fun x1=>aa (ldv s 48 x1) fun x2=>aa (rf D bd [v2,x2] s) fun x3=>some (.normal,[(0,v0),(2,v2)],x3.2):OR)) (get ρ 0) (get ρ 2):=zr
@[go_sem] theorem acQ:rc D b OA ρ s=(fun v0 v2=>(aa (ai v0) fun x0=>aa (ae 43 4 50 x0) fun x1=>aa (ldv s 50 x1) fun x2=>some (.normal,[(0,v0),(2,v2),(23,x2),(24,(.int .i64 0))],s):OR)) (get ρ 0) (get ρ 2):=zr
@[go_sem] theorem YD:rc D b K6 ρ s=(fun v0 v2 v23 v24=>(aa (ab .lss v24 (.int .i64 8)) fun x0=>some (.normal,[(0,v0),(2,v2),(23,v23),(24,v24),(25,x0)],s):OR)) (get ρ 0) (get ρ 2) (get ρ 23) (get ρ 24):=zr
@[go_sem] theorem afH:rc D b Lh ρ s=(fun v0 v2 v23 v24=>(aa (ib 50 8 v23 v24) fun x0=>some (.normal,[(0,v0),(2,v2),(4,x0),(23,v23),(24,v24)],s):OR)) (get ρ 0) (get ρ 2) (get ρ 23) (get ρ 24):=zr
@[go_sem] theorem aaZ:rc D b Lw ρ s=(fun v0 v2 v4 v23 v24=>(aa (ab .geq v4 (.int .i64 0)) fun x0=>ao x0 true (aa (ab .lss v4 (.int .i64 1024)) fun x1=>some (.normal,[(0,v0),(2,v2),(4,v4),(23,v23),(24,v24),(32,x1)],s)) (some (.normal,[(0,v0),(2,v2),(4,v4),(23,v23),(24,v24),(32,(.bool false))],s)) (none):OR)) (get ρ 0) (get ρ 2) (get ρ 4) (get ρ 23) (get ρ 24):=zr
@[go_sem] theorem abI:rc D b J1 ρ s=(fun v0 v2 v4 v23 v24=>(aa (aX 82 1024 0 v2 v4) fun x0=>aa (stv b s 0 (.bool true) x0) fun s1=>some (.normal,[(0,v0),(2,v2),(23,v23),(24,v24)],s1):OR)) (get ρ 0) (get ρ 2) (get ρ 4) (get ρ 23) (get ρ 24):=zr
@[go_sem] theorem ab6:rc D b P7 ρ s=(fun v0 v2 v23 v24=>(aa (ab .add v24 (.int .i64 1)) fun x0=>some (.normal,[(0,v0),(2,v2),(23,v23),(24,x0)],s):OR)) (get ρ 0) (get ρ 2) (get ρ 23) (get ρ 24):=zr
@[go_sem] theorem XV:rc D b Cr ρ s=(fun v0 v2=>(aa (ai v0) fun x0=>aa (ae 43 0 1 x0) fun x1=>aa (ldv s 1 x1) fun x2=>aa (rf D bB [x2] s) fun x3=>some (.normal,[(0,v0),(2,v2),(40,x3.1),(41,(.int .i64 0))],x3.2):OR)) (get ρ 0) (get ρ 2):=zr
@[go_sem] theorem XI:rc D b Fi ρ s=(fun v0 v2 v40 v41=>(aa (ab .lss v41 v40) fun x0=>some (.normal,[(0,v0),(2,v2),(40,v40),(41,v41),(42,x0)],s):OR)) (get ρ 0) (get ρ 2) (get ρ 40) (get ρ 41):=zr
@[go_sem] theorem Xm:rc D b CB ρ s=(fun v0 v2 v40 v41=>(some (.normal,[(0,v0),(2,v2),(5,v41),(40,v40),(41,v41)],s):OR)) (get ρ 0) (get ρ 2) (get ρ 40) (get ρ 41):=zr
@[go_sem] theorem Yc:rc D b Ek ρ s=(fun v0 v2 v5 v40 v41=>(aa (aX 82 1024 0 v2 v5) fun x0=>aa (ldv s 0 x0) fun x1=>aa (vun .not x1) fun x2=>ao x2 true (aa (ai v0) fun x3=>aa (ae 43 1 1 x3) fun x4=>aa (ldv s 1 x4) fun x5=>aa (rf D bw [x5,v5] s) fun x6=>aa (ab .eql x6.1 (.int .i64 1)) fun x7=>some (.normal,[(0,v0),(2,v2),(5,v5),(40,v40),(41,v41),(56,x7)],x6.2)) (some (.normal,[(0,v0),(2,v2),(5,v5),(40,v40),(41,v41),(56,(.bool false))],s)) (none):OR)) (get ρ 0) (get ρ 2) (get ρ 5) (get ρ 40) (get ρ 41):=zr
@[go_sem] theorem WV:rc D b EH ρ s=(fun v0 v2 v5 v40 v41=>(aa (ai v0) fun x0=>aa (ae 43 1 1 x0) fun x1=>aa (ldv s 1 x1) fun x2=>aa (rf D bW [x2,v5] s) fun x3=>some (.normal,[(0,v0),(2,v2),(40,v40),(41,v41)],x3.2):OR)) (get ρ 0) (get ρ 2) (get ρ 5) (get ρ 40) (get ρ 41):=zr
@[go_sem] theorem Xo:rc D b Cy ρ s=(fun v0 v2 v40 v41=>(aa (ab .add v41 (.int .i64 1)) fun x0=>some (.normal,[(0,v0),(2,v2),(40,v40),(41,x0)],s):OR)) (get ρ 0) (get ρ 2) (get ρ 40) (get ρ 41):=zr
@[go_sem] theorem XZ:rc D b Fj ρ s=(fun v0=>(aa (ai v0) fun x0=>aa (ae 43 1 1 x0) fun x1=>aa (ldv s 1 x1) fun x2=>aa (rf D cJ [x2] s) fun x3=>some (.normal,[],x3.2):OR)) (get ρ 0):=zr
@[go_sem] theorem aa4:rc D b Oq ρ s=(fun v0 v1=>(some (.normal,[(0,v0),(1,v1)],s):OR)) (get ρ 0) (get ρ 1):=zr
@[go_sem] theorem aes:rc D b QA ρ s=(fun v0 v1=>(aa (ab .lss v1 (.int .i64 0)) fun x0=>ao x0 false (aa (ai v0) fun x1=>aa (ae 59 0 1 x1) fun x2=>aa (ldv s 1 x2) fun x3=>aa (V.slen false x3) fun x4=>aa (ab .geq v1 (.int .i64 x4)) fun x5=>some (.normal,[(0,v0),(1,v1),(15,x5)],s)) (some (.normal,[(0,v0),(1,v1),(15,(.bool true))],s)) (none):OR)) (get ρ 0) (get ρ 1):=zr
@[go_sem] theorem abW:rc D b KU ρ s= some (.normal,[(4,.nilp)],s):=zr
@[go_sem] theorem aeV:rc D b I2 ρ s=(fun v0 v1=>(aa (ai v0) fun x0=>aa (ae 59 0 1 x0) fun x1=>aa (ldv s 1 x1) fun x2=>aa (ef 55 x2 v1) fun x3=>some (.normal,[(4,x3)],s):OR)) (get ρ 0) (get ρ 1):=zr
@[go_sem] theorem ac6:rc D b KE ρ s=(fun v0=>(if V.ok v0 && ap false v0 then let x0:V:=.ptr (St.fresh s false) [] (V.tag v0); let s0:St:=St.new s false v0; some (.normal,[(1,x0)],s0) else none:OR)) (get ρ 0):=zr
@[go_sem] theorem ac5:rc D b Ro ρ s=(fun v1=>(aa (ae 42 0 10 v1) fun x0=>aa (ldv s 10 x0) fun x1=>aa (ab .lss x1 (.int .i64 0)) fun x2=>ao x2 false (aa (ae 42 0 10 v1) fun x3=>aa (ldv s 10 x3) fun x4=>aa (ab .gtr x4 (.int .i64 4)) fun x5=>ao x5 false (aa (ae 42 1 10 v1) fun x6=>aa (ldv s 10 x6) fun x7=>aa (ab .lss x7 (.int .i64 0)) fun x8=>ao x8 false (aa (ae 42 1 10 v1) fun x9=>aa (ldv s 10 x9) fun x10=>aa (ab .gtr x10 (.int .i64 16777215)) fun x11=>ao x11 false (aa (ae 42 2 10 v1) fun x12=>aa (ldv s 10 x12) fun x13=>aa (ab .lss x13 (.int .i64 0)) fun x14=>ao x14 false (aa (ae 42 2 10 v1) fun x15=>aa (ldv s 10 x15) fun x16=>aa (ab .geq x16 (.int .i64 1024)) fun x17=>ao x17 false (aa (ae 42 0 10 v1) fun x18=>aa (ldv s 10 x18) fun x19=>aa (ab .eql x19 (.int .i64 0)) fun x20=>ao x20 true (aa (ae 42 2 10 v1) fun x21=>aa (ldv s 10 x21) fun x22=>aa (ab .neq x22 (.int .i64 0)) fun x23=>some (.normal,[(1,v1),(43,x23)],s)) (some (.normal,[(1,v1),(43,(.bool false))],s)) (none)) (some (.normal,[(1,v1),(43,(.bool true))],s)) (none)) (some (.normal,[(1,v1),(43,(.bool true))],s)) (none)) (some (.normal,[(1,v1),(43,(.bool true))],s)) (none)) (some (.normal,[(1,v1),(43,(.bool true))],s)) (none)) (some (.normal,[(1,v1),(43,(.bool true))],s)) (none)) (some (.normal,[(1,v1),(43,(.bool true))],s)) (none):OR)) (get ρ 1):=zr
@[go_sem] theorem agq:rc D b OY ρ s= some (.normal,[(2,(.int .u64 0)),(3,(.int .i64 1))],s):=zr
@[go_sem] theorem aaP:rc D b Nd ρ s=(fun v1=>(aa (ae 42 0 10 v1) fun x0=>aa (ldv s 10 x0) fun x1=>aa (cX .u64 x1) fun x2=>aa (rf D aQ [(.int .u64 0),(.int .i64 0),(.int .i64 4),x2] s) fun x3=>aa (aF 0 x3.1) fun x4=>aa (aF 1 x3.1) fun _x5=>some (.normal,[(1,v1),(4,x4)],x3.2):OR)) (get ρ 1):=zr
@[go_sem] theorem aeS:rc D b KP ρ s=(fun v1 v4=>(aa (ae 42 1 10 v1) fun x0=>aa (ldv s 10 x0) fun x1=>aa (cX .u64 x1) fun x2=>aa (rf D aQ [v4,(.int .i64 4),(.int .i64 24),x2] s) fun x3=>aa (aF 0 x3.1) fun x4=>aa (aF 1 x3.1) fun _x5=>some (.normal,[(1,v1),(4,x4)],x3.2):OR)) (get ρ 1) (get ρ 4):=zr
@[go_sem] theorem abV:rc D b ML ρ s=(fun v1 v4=>(aa (ae 42 2 10 v1) fun x0=>aa (ldv s 10 x0) fun x1=>aa (cX .u64 x1) fun x2=>aa (rf D aQ [v4,(.int .i64 28),(.int .i64 16),x2] s) fun x3=>aa (aF 0 x3.1) fun x4=>aa (aF 1 x3.1) fun x5=>some (.normal,[(2,x4),(3,x5)],x3.2):OR)) (get ρ 1) (get ρ 4):=zr
@[go_sem] theorem aaK:rc D b Jp ρ s=(fun v0=>(if V.ok v0 && ap false v0 then let x0:V:=.ptr (St.fresh s false) [] (V.tag v0); let s0:St:=St.new s false v0; let x1:V:=.ptr (St.fresh s0 false) [] 24; let s1:St:=St.new s0 false (.agg 24 (List.replicate 8 (.int .u64 0))); some (.normal,[(1,x0),(2,x1)],s1) else none:OR)) (get ρ 0):=zr
@[go_sem] theorem adl:rc D b Is ρ s=(fun v1 v2=>(aa (ldv s 24 v1) fun x0=>aa (rf D dI [x0] s) fun x1=>let x2:V:=.ptr (St.fresh x1.2 false) [] 108; let s2:St:=St.new x1.2 false (.agg 108 (List.replicate 64 (.int .u8 0))); aa (stv b s2 108 x1.1 x2) fun s3=>some (.normal,[(1,v1),(2,v2),(3,x2)],s3):OR)) (get ρ 1) (get ρ 2):=zr
@[go_sem] theorem acJ:rc D b Ly ρ s=(fun v1 v2 v3=>(aa (j8 s 108 64 12 none (some (.int .i64 56)) none v3) fun x0=>aa (rf D eh [x0] s) fun x1=>aa (cX .u64 x1.1) fun x2=>aa (ab .or x2 (.int .u64 4294967296)) fun x3=>aa (aX 24 8 18 v1 (.int .i64 7)) fun x4=>aa (stv b x1.2 18 x3 x4) fun s5=>some (.normal,[(1,v1),(2,v2)],s5):OR)) (get ρ 1) (get ρ 2) (get ρ 3):=zr
@[go_sem] theorem ad7:rc D b Kx ρ s=(fun v1 v2=>(aa (ldv s 24 v1) fun x0=>aa (stv b s 24 x0 v2) fun s1=>some (.normal,[(2,v2)],s1):OR)) (get ρ 1) (get ρ 2):=zr
@[go_sem] theorem acI:rc D b P5 ρ s=(fun v0 v1 v2=>(some (.normal,[(0,v0),(1,v1),(2,v2)],s):OR)) (get ρ 0) (get ρ 1) (get ρ 2):=zr
@[go_sem] theorem abK:rc D b LM ρ s=(fun v0 v1 v2=>(aa (rf D bw [v0,v1] s) fun x0=>some (.normal,[(2,v2),(9,x0.1)],x0.2):OR)) (get ρ 0) (get ρ 1) (get ρ 2):=zr
@[go_sem] theorem aax:rc D b KN ρ s=(fun v2 v9=>(aa (ab .eql v9 (.int .i64 (-1))) fun x0=>some (.normal,[(2,v2),(9,v9),(10,x0)],s):OR)) (get ρ 2) (get ρ 9):=zr
@[go_sem] theorem aeQ:rc D b IN ρ s= some (.normal,[(6,(.int .i64 1))],s):=zr
@[go_sem] theorem aem:rc D b Pq ρ s=(fun v2 v9=>(aa (ab .eql v9 v2) fun x0=>some (.normal,[(12,x0)],s):OR)) (get ρ 2) (get ρ 9):=zr
@[go_sem] theorem adz:rc D b Kt ρ s= some (.normal,[(6,(.int .i64 0))],s):=zr
@[go_sem] theorem afY:rc D b Nl ρ s= some (.normal,[(6,(.int .i64 3))],s):=zr
@[go_sem] theorem Yz:rc D b MT ρ s=(fun v0 v1=>(if V.ok v1 && ap false v1 then let x0:V:=.ptr (St.fresh s false) [] (V.tag v1); let s0:St:=St.new s false v1; some (.normal,[(0,v0),(3,x0)],s0) else none:OR)) (get ρ 0) (get ρ 1):=zr
@[go_sem] theorem YE:rc D b LA ρ s=(fun v0 v3=>(aa (ldv s 48 v3) fun x0=>some (.normal,[(0,v0),(6,x0),(7,(.int .i64 0))],s):OR)) (get ρ 0) (get ρ 3):=zr
@[go_sem] theorem Yv:rc D b IU ρ s=(fun v0 v6 v7=>(aa (ab .lss v7 (.int .i64 49)) fun x0=>some (.normal,[(0,v0),(6,v6),(7,v7),(8,x0)],s):OR)) (get ρ 0) (get ρ 6) (get ρ 7):=zr
@[go_sem] theorem agA:rc D b IL ρ s=(fun v0 v6 v7=>(aa (ib 48 49 v6 v7) fun x0=>let x1:V:=.ptr (St.fresh s false) [] 42; let s1:St:=St.new s false (.agg 42 [(.int .i64 0),(.int .i64 0),(.int .i64 0)]); aa (stv b s1 42 x0 x1) fun s2=>some (.normal,[(0,v0),(5,x1),(6,v6),(7,v7)],s2):OR)) (get ρ 0) (get ρ 6) (get ρ 7):=zr
@[go_sem] theorem aaM:rc D b IF ρ s=(fun v0 v5 v6 v7=>(aa (ae 42 0 10 v5) fun x0=>aa (ldv s 10 x0) fun x1=>aa (ab .neq x1 (.int .i64 0)) fun x2=>some (.normal,[(0,v0),(5,v5),(6,v6),(7,v7),(12,x2)],s):OR)) (get ρ 0) (get ρ 5) (get ρ 6) (get ρ 7):=zr
@[go_sem] theorem adC:rc D b Oe ρ s=(fun v0 v5 v6 v7=>(aa (ae 42 2 10 v5) fun x0=>aa (ldv s 10 x0) fun x1=>aa (ai v0) fun x2=>aa (aX 82 1024 0 x2 x1) fun x3=>aa (stv b s 0 (.bool true) x3) fun s4=>some (.normal,[(0,v0),(6,v6),(7,v7)],s4):OR)) (get ρ 0) (get ρ 5) (get ρ 6) (get ρ 7):=zd
@[go_sem] theorem abs:rc D b O1 ρ s=(fun v0 v6 v7=>(aa (ab .add v7 (.int .i64 1)) fun x0=>some (.normal,[(0,v0),(6,v6),(7,x0)],s):OR)) (get ρ 0) (get ρ 6) (get ρ 7):=zr
@[go_sem] theorem af4:rc D b Nv ρ s=(fun v0=>(some (.normal,[(0,v0)],s):OR)) (get ρ 0):=zr
@[go_sem] theorem YS:rc D b Pt ρ s=(fun v0=>(aa (ai v0) fun x0=>aa (ae 59 2 0 x0) fun x1=>aa (ldv s 0 x1) fun x2=>ao x2 true (aa (ai v0) fun x3=>aa (ae 59 3 10 x3) fun x4=>aa (ldv s 10 x4) fun x5=>aa (ab .eql x5 (.int .i64 0)) fun x6=>some (.normal,[(0,v0),(13,x6)],s)) (some (.normal,[(0,v0),(13,(.bool false))],s)) (none):OR)) (get ρ 0):=zr
@[go_sem] theorem abr:rc D b OZ ρ s=(fun v0=>(aa (ai v0) fun x0=>aa (ae 59 1 0 x0) fun x1=>aa (stv b s 0 (.bool true) x1) fun s2=>some (.normal,[(0,v0)],s2):OR)) (get ρ 0):=zr
@[go_sem] theorem abU:rc D b Qc ρ s=(fun v0=>(aa (ai v0) fun x0=>aa (ae 59 1 0 x0) fun x1=>aa (ldv s 0 x1) fun x2=>some (.normal,[(0,v0),(20,x2)],s):OR)) (get ρ 0):=zr
@[go_sem] theorem ZQ:rc D b KM ρ s= some (.normal,[(2,(.int .i64 4))],s):=zr
@[go_sem] theorem aen:rc D b Ih ρ s=(fun v0=>(aa (ai v0) fun x0=>aa (ae 59 2 0 x0) fun x1=>aa (ldv s 0 x1) fun x2=>some (.normal,[(0,v0),(24,x2)],s):OR)) (get ρ 0):=zr
@[go_sem] theorem aeP:rc D b NI ρ s=(fun v0=>(aa (ai v0) fun x0=>aa (ae 59 3 10 x0) fun x1=>aa (ldv s 10 x1) fun x2=>aa (ab .sub x2 (.int .i64 1)) fun x3=>aa (ai v0) fun x4=>aa (ae 59 3 10 x4) fun x5=>aa (stv b s 10 x3 x5) fun s6=>some (.normal,[(0,v0)],s6):OR)) (get ρ 0):=zr
@[go_sem] theorem agv:rc D b M5 ρ s=(fun v0=>(aa (ai v0) fun x0=>aa (ae 59 4 10 x0) fun x1=>aa (ldv s 10 x1) fun x2=>aa (ab .add x2 (.int .i64 1)) fun x3=>aa (ai v0) fun x4=>aa (ae 59 4 10 x4) fun x5=>aa (stv b s 10 x3 x5) fun s6=>some (.normal,[],s6):OR)) (get ρ 0):=zr
end
end Go.Proofs.YtmimfopnhmmlbaaDoor
