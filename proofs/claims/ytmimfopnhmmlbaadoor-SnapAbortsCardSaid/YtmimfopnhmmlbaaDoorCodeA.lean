/-
  YtmimfopnhmmlbaaDoorCode: the code of the functions that this seat's laws reach, in the form of Ab1 (printed by a program out of the translation; held against it in YtmimfopnhmmlbaaDoorChk).
-/
import Derived.Test.YtmimfopnhmmlbaaDoorAbG
import Derived.KernelRfl
set_option maxRecDepth 100000
namespace Go.Proofs.YtmimfopnhmmlbaaDoor
open Go.Ab
noncomputable section
variable {b : Nat} {ρ : Env} {s : St}
def wG : V := .ptr (.hp 0) [] 108
@[go_sem] theorem VU : wG = .ptr (.hp 0) [] 108 := nd rfl
def kX : List Int := [0, 1, 56, 2, 57, 49, 28, 3, 61, 58, 42, 50, 38, 29, 17, 4, 62, 47, 59, 36, 45, 43, 51, 22, 53, 39, 33, 30, 24, 18, 12, 5, 63, 55, 48, 27, 60, 41, 37, 16, 46, 35, 44, 21, 52, 32, 23, 11, 54, 26, 40, 15, 34, 20, 31, 10, 25, 14, 19, 9, 13, 8, 7, 6]
def cD : V := .agg 108 (kX.map (.int .u8))
def G : List Blk := [.ro cD]
def ib:Nat:=3
def dK:Nat:=5
def bg:Nat:=6
def dv:Nat:=7
def ef:Nat:=8
def aD:Nat:=9
def cg:Nat:=10
def bo:Nat:=11
def bi:Nat:=12
def bm:Nat:=13
def bq:Nat:=14
def aX:Nat:=15
def bN:Nat:=16
def gA:Nat:=18
def mu:Nat:=19
def dJ:Nat:=20
def dk:Nat:=21
def bL:Nat:=22
def eC:Nat:=23
def lF:Nat:=24
def dL:Nat:=25
def fa:Nat:=26
def ep:Nat:=27
def eY:Nat:=28
def bI:Nat:=29
def bf:Nat:=30
def ei:Nat:=31
def bP:Nat:=32
def jh:Nat:=33
def dG:Nat:=34
def dE:Nat:=35
def dm:Nat:=36
def cS:Nat:=37
def dV:Nat:=38
def cd:Nat:=39
def gD:Nat:=40
def mR:Nat:=41
def dT:Nat:=42
def dX:Nat:=43
def gG:Nat:=44
def bC:Nat:=45
def bJ:Nat:=46
def bl:Nat:=47
def bR:Nat:=48
def aV:Nat:=49
def cC:Nat:=50
def dg:Nat:=51
def ck:Nat:=52
def kS:Nat:=53
def dt:Nat:=54
def cB:Nat:=55
def aT:Nat:=56
def cQ:Nat:=57
def iS:Nat:=58
def dn:Nat:=59
def iU:Nat:=60
def cT:Nat:=61
def jG:Nat:=62
def dM:Nat:=63
def bM:Nat:=64
def cv:Nat:=65
def dZ:Nat:=66
def bX:Nat:=67
def bE:Nat:=68
def be:Nat:=69
def a8:Nat:=70
def km:Nat:=71
def j0:Nat:=72
def fQ:Nat:=73
def eX:Nat:=74
def kf:Nat:=75
def bA:Nat:=76
def bV:Nat:=77
def cG:Nat:=78
def aR:Nat:=79
def dN:Nat:=80
def eu:Nat:=81
def cU:Nat:=82
def ko:Nat:=83
def mQ:Nat:=84
def dj:Nat:=85
def bO:Nat:=86
def cP:Nat:=87
def fb:Nat:=88
def bn:Nat:=89
def cV:Nat:=90
def lO:Nat:=91
def UB:C:=zR [0,1] [zm 4 (.k (.bool false))]
def TH:C:=zR [0,1,5] [zC 19 (zf dK) [],zm 5 19]
def Tn:C:=zR [0,1,5,7,8] [zC 21 (zf bg) [(zi 100),(zi 12)],zm 20 21,zE 22 20 0,zE 23 20 1,zE 24 20 2,zm 6 22,zm 7 23,zm 8 24]
def Ue:C:=zR [0,1,7,8,30] [zm 25 5,zq 26 (.un .not 25),zm 27 26,zg 28 27 false (.mv 8),zg 29 27 false (.eq false 1 28 (.k .nilp)),zP 30 27 (.k (.bool true)) 29]
def TT:C:=zR [4] [zm 4 (.k (.bool false))]
def UU:C:=zR [0,1,7,8,9] [zm 9 (zi 0)]
def Tt:C:=zR [0,1,7,8,9,38] [zm 31 9,zm 32 0,zq 33 (.len false 32),zB 34 .lss 31 33,zm 35 34,zg 36 35 true (.mv 9),zg 37 35 true (.bin .lss 36 (zi 20)),zP 38 35 37 (.k (.bool false))]
def UO:C:=zR [0,1,7,8,9] [zm 41 7,zm 42 0,zm 43 9,zq 44 (.sad 54 42 43),zL 45 54 44,zC 46 (zf dv) [41,45]]
def TR:C:=zR [0,1,7,8,9] [zm 39 9,zB 40 .add 39 (zi 1),zm 9 40]
def US:C:=zR [1,7,8,51] [zm 47 7,zC 48 (zf ef) [47],zm 49 1,zC 50 (zf aD) [49,(zi 8)],zB 51 .gtr 48 50]
def Qp:C:=zR [1,7,8] [zm 52 7,zC 53 (zf cg) [52]]
def Og:C:=zR [7,8,10,11] [zm 55 7,zC 56 (zf bo) [55],zm 54 56,zE 57 54 0,zE 58 54 1,zq 10 (.alloc false (.agg 48 (List.replicate 49 (.agg 42 [(.int .i64 0),(.int .i64 0),(.int .i64 0)])))),zq 11 (.alloc false (.agg 50 (List.replicate 8 (.int .i64 0)))),zS 48 10 57,zS 50 11 58]
def J9:C:=zR [7,8,10,11,12] [zm 59 7,zC 60 (zf bi) [59],zq 12 (.alloc false (.agg 48 (List.replicate 49 (.agg 42 [(.int .i64 0),(.int .i64 0),(.int .i64 0)])))),zS 48 12 60]
def JF:C:=zR [7,8,10,11,12,63] [zm 61 8,zC 62 (zf bm) [61,(zi 1)],zB 63 .neq 62 (zi 0)]
def Lx:C:=zR [4] [zm 4 (.k (.bool false))]
def NB:C:=zR [7,8,10,11,12,13] [zm 13 (zi 0)]
def Ks:C:=zR [7,8,10,11,12,13,14] [zm 14 (zi 0)]
def JH:C:=zR [7,8,10,11,12,13,14,74] [zm 64 14,zB 65 .lss 64 (zi 60),zm 66 65,zg 67 66 true (.mv 8),zg 68 66 true (.call (zf bq) [67]),zg 69 66 true (.bin .gtr 68 (zi 0)),zP 70 66 69 (.k (.bool false)),zm 71 70,zg 72 71 true (.mv 13),zg 73 71 true (.bin .eql 72 (zi 0)),zP 74 71 73 (.k (.bool false))]
def Rb:C:=zR [7,8,10,11,12,13,14] [zm 78 8,zC 79 (zf aX) [78],zm 77 79,zE 80 77 0,zE 81 77 1,zm 13 81]
def Pe:C:=zR [7,8,10,11,12,13,14] [zm 75 14,zB 76 .add 75 (zi 1),zm 14 76]
def OL:C:=zR [7,8,10,11,12,13,15,16] [zm 83 7,zC 84 (zf bo) [83],zm 82 84,zE 85 82 0,zE 86 82 1,zq 15 (.alloc false (.agg 48 (List.replicate 49 (.agg 42 [(.int .i64 0),(.int .i64 0),(.int .i64 0)])))),zq 16 (.alloc false (.agg 50 (List.replicate 8 (.int .i64 0)))),zS 48 15 85,zS 50 16 86]
def Ng:C:=zR [7,8,10,11,12,13,15,16,88] [zm 87 13,zB 88 .eql 87 (zi 0)]
def Np:C:=zD [4] [zL 89 48 15,zL 90 48 12,zq 91 (.eq false 48 89 90),zm 92 91,zg 93 92 true (.mv 7),zg 94 92 true (.pcall (zf bi) [93]),zg 95 92 true (.ld 48 12),zg 96 92 true (.eq false 48 94 95),zP 97 92 96 (.k (.bool false)),zm 4 97]
def MK:C:=zR [7,8,10,11,12,13,15,16,18] [zm 99 7,zC 100 (zf bN) [99],zm 98 100,zE 101 98 0,zE 102 98 1,zq 17 (.alloc false (.agg 48 (List.replicate 49 (.agg 42 [(.int .i64 0),(.int .i64 0),(.int .i64 0)])))),zS 48 17 101,zm 18 102]
def LX:C:=zD [4] [zm 103 13,zB 104 .eql 103 (zi 10),zm 105 104,zg 106 105 true (.ld 48 15),zg 107 105 true (.ld 48 10),zg 108 105 true (.eq false 48 106 107),zP 109 105 108 (.k (.bool false)),zm 110 109,zg 111 110 true (.ld 50 16),zg 112 110 true (.ld 50 11),zg 113 110 true (.eq false 50 111 112),zP 114 110 113 (.k (.bool false)),zm 115 114,zg 116 115 true (.mv 7),zg 117 115 true (.pcall (zf bi) [116]),zg 118 115 true (.ld 48 12),zg 119 115 true (.eq false 48 117 118),zP 120 115 119 (.k (.bool false)),zm 121 120,zg 122 121 true (.mv 8),zg 123 121 true (.pcall (zf bq) [122]),zg 124 121 true (.bin .eql 123 (zi 0)),zP 125 121 124 (.k (.bool false)),zm 126 125,zg 127 126 true (.mv 18),zg 128 126 true (.un .not 127),zP 129 126 128 (.k (.bool false)),zm 130 129,zg 131 130 true (.mv 8),zg 132 130 true (.call (zf bm) [131,(zi 2)]),zg 133 130 true (.bin .eql 132 (zi 0)),zP 134 130 133 (.k (.bool false)),zm 4 134]
def br:C:=.seq (.seq Tt (.cond (.t 38) (.skip) (.exit 0))) (.seq (.block 1 UO) TR)
def aQ:C:=.seq (.seq US (.cond (.t 51) (.skip) (.exit 2))) (.block 3 Qp)
def aP:C:=.seq (.seq JH (.cond (.t 74) (.skip) (.exit 4))) (.seq (.block 5 Rb) Pe)
@[go_sem] def dF:Fc:=⟨2,.seq UB (.seq TH (.seq Tn (.seq (.seq Ue (.cond (.t 30) (.seq TT (.ret)) (.skip))) (.seq (.seq UU (.block 0 (.loop [0,1,7,8,9] br))) (.seq (.block 2 (.loop [1,7,8] aQ)) (.seq Og (.seq J9 (.seq (.seq JF (.cond (.t 63) (.seq Lx (.ret)) (.skip))) (.seq NB (.seq (.seq Ks (.block 4 (.loop [7,8,10,11,12,13,14] aP))) (.seq OL (.seq (.seq Ng (.cond (.t 88) (.seq Np (.ret)) (.skip))) (.seq MK (.seq LX (.ret))))))))))))))),[.t 4]⟩
def Tm:C:=zR [] [zm 0 (.k (.bool false))]
def UM:C:=zR [3] [zC 18 (zf bg) [(zi 80),(zi 3)],zm 17 18,zE 19 17 0,zE 20 17 1,zE 21 17 2,zm 1 19,zm 2 20,zm 3 21]
def Uu:C:=zR [3,23] [zm 22 3,zq 23 (.eq false 1 22 (.k .nilp))]
def Uz:C:=zR [0] [zm 0 (.k (.bool false))]
def Uw:C:=zR [3,5] [zm 25 3,zC 26 (zf aX) [25],zm 24 26,zE 27 24 0,zE 28 24 1,zm 4 27,zm 5 28]
def TP:C:=zR [3,5,6] [zm 29 3,zC 30 (zf bm) [29,(zi (-1))],zm 6 30]
def T5:C:=zR [3,5,6,7] [zm 31 3,zC 32 (zf bm) [31,(zi 0)],zm 7 32]
def Uq:C:=zR [3,5,6,7,8] [zm 33 3,zC 34 (zf bq) [33],zm 8 34]
def TL:C:=zR [3,5,6,7,8,9,10] [zm 36 3,zC 37 (zf aX) [36],zm 35 37,zE 38 35 0,zE 39 35 1,zm 9 38,zm 10 39]
def TG:C:=zR [3,5,6,7,8,9,10,11,12] [zm 41 3,zC 42 (zf aX) [41],zm 40 42,zE 43 40 0,zE 44 40 1,zm 11 43,zm 12 44]
def OE:C:=zR [3,5,6,7,8,9,10,11,12,13,14] [zm 46 3,zC 47 (zf aX) [46],zm 45 47,zE 48 45 0,zE 49 45 1,zm 13 48,zm 14 49]
def Kf:C:=zR [3,5,6,7,8,9,10,11,12,13,14,15,16] [zm 51 3,zC 52 (zf gA) [51],zm 50 52,zE 53 50 0,zE 54 50 1,zq 15 (.alloc false (.agg 44 [(.int .i64 0),(.int .i64 0),(.int .i64 0),(.int .i64 0)])),zS 44 15 53,zm 16 54]
def Lg:C:=zR [0] [zm 55 5,zB 56 .eql 55 (zi 3),zm 57 56,zg 58 57 true (.mv 6),zg 59 57 true (.bin .eql 58 (zi 1)),zP 60 57 59 (.k (.bool false)),zm 61 60,zg 62 61 true (.mv 7),zg 63 61 true (.bin .eql 62 (zi 0)),zP 64 61 63 (.k (.bool false)),zm 65 64,zg 66 65 true (.mv 8),zg 67 65 true (.bin .eql 66 (zi 3)),zP 68 65 67 (.k (.bool false)),zm 69 68,zg 70 69 true (.mv 9),zg 71 69 true (.un .not 70),zP 72 69 71 (.k (.bool false)),zm 73 72,zg 74 73 true (.mv 10),zg 75 73 true (.bin .eql 74 (zi 0)),zP 76 73 75 (.k (.bool false)),zm 77 76,zg 78 77 true (.mv 11),zg 79 77 true (.un .not 78),zP 80 77 79 (.k (.bool false)),zm 81 80,zg 82 81 true (.mv 12),zg 83 81 true (.bin .eql 82 (zi 0)),zP 84 81 83 (.k (.bool false)),zm 85 84,zg 86 85 true (.mv 13),zP 87 85 86 (.k (.bool false)),zm 88 87,zg 89 88 true (.mv 14),zg 90 88 true (.bin .eql 89 (zi 0)),zP 91 88 90 (.k (.bool false)),zm 92 91,zg 93 92 true (.fad 44 0 10 15),zg 94 92 true (.ld 10 93),zg 95 92 true (.bin .eql 94 (zi 2)),zP 96 92 95 (.k (.bool false)),zm 97 96,zg 98 97 true (.mv 16),zg 99 97 true (.bin .eql 98 (zi 1)),zP 100 97 99 (.k (.bool false)),zm 101 100,zg 102 101 true (.mv 3),zg 103 101 true (.call (zf bq) [102]),zg 104 101 true (.bin .eql 103 (zi 0)),zP 105 101 104 (.k (.bool false)),zm 0 105]
@[go_sem] def fu:Fc:=⟨0,.seq Tm (.seq UM (.seq (.seq Uu (.cond (.t 23) (.seq Uz (.ret)) (.skip))) (.seq Uw (.seq TP (.seq T5 (.seq Uq (.seq TL (.seq TG (.seq OE (.seq Kf (.seq Lg (.ret)))))))))))),[.t 0]⟩
def TN:C:=zR [0,1] [zm 4 (.k .nilp),zm 5 (.k .nilp),zm 6 (.k .nilp)]
def UG:C:=zR [1,7] [zm 12 0,zm 13 1,zC 14 (zf dJ) [12,13],zC 15 (zf mu) [14],zm 11 15,zE 16 11 0,zE 17 11 1,zm 7 16,zm 8 17]
def TY:C:=zR [1,7,19] [zm 18 7,zq 19 (.eq false 1 18 (.k .nilp))]
def T6:C:=zR [4,5,6] [zm 4 (.k .nilp),zm 5 (.k .nilp),zm 6 (.k .nilp)]
def UX:C:=zR [7,9] [zm 21 7,zm 22 1,zC 23 (zf bL) [22],zC 24 (zf eC) [],zC 25 (zf dk) [21,(zi 10),23,24],zm 20 25,zE 26 20 0,zE 27 20 1,zm 9 26,zm 10 27]
def UA:C:=zR [7,9,29] [zm 28 9,zq 29 (.eq false 1 28 (.k .nilp))]
def TC:C:=zR [4,5,6] [zm 4 (.k .nilp),zm 5 (.k .nilp),zm 6 (.k .nilp)]
def Un:C:=zR [4,5,6] [zm 30 7,zm 31 9,zm 32 7,zm 33 9,zC 34 (zf dL) [],zC 35 (zf lF) [32,33,34,(zi 0)],zm 4 30,zm 5 31,zm 6 35]
@[go_sem] def fY:Fc:=⟨2,.seq TN (.seq UG (.seq (.seq TY (.cond (.t 19) (.seq T6 (.ret)) (.skip))) (.seq UX (.seq (.seq UA (.cond (.t 29) (.seq TC (.ret)) (.skip))) (.seq Un (.ret)))))),[.t 4,.t 5,.t 6]⟩
def UV:C:=zR [0,3] [zq 3 (.box false 1)]
def Tu:C:=zR [0,3,6] [zF 4 54 0 10 3,zL 5 10 4,zC 6 (zf aD) [5,(zi 4)]]
def Uj:C:=zR [0,3,6,7] [zB 8 .eql 6 (zi 0),zm 7 8]
def TW:C:=zR [0,3,6,7] [zB 9 .eql 6 (zi 1),zm 7 9]
def UC:C:=zD [] [zm 10 0,zF 11 54 1 10 3,zL 12 10 11,zq 13 (.pcall (zf aD) [12,(zi 20)]),zF 14 54 2 10 3,zL 15 10 14,zq 16 (.pcall (zf aD) [15,(zi 8)]),zF 17 54 3 18 3,zL 18 18 17,zC 19 (zf fa) [10,13,16,18]]
def Tr:C:=zR [0,3,6,20] [zB 21 .eql 6 (zi 2),zm 20 21]
def Ux:C:=zR [] [zm 22 0,zF 23 54 2 10 3,zL 24 10 23,zC 25 (zf aD) [24,(zi 2)],zB 26 .add (zi 1) 25,zC 27 (zf ep) [22,26]]
def TK:C:=zR [0,3,28] [zB 29 .eql 6 (zi 3),zm 28 29]
def UQ:C:=zR [] [zm 30 0,zF 31 54 1 10 3,zL 32 10 31,zC 33 (zf aD) [32,(zi 20)],zC 34 (zf eY) [30,33]]
@[go_sem] def eR:Fc:=⟨2,.seq UV (.seq Tu (.block 0 (.seq (.seq Uj (.cond (.t 7) (.skip) TW)) (.cond (.t 7) UC (.seq Tr (.cond (.t 20) Ux (.seq TK (.cond (.t 28) UQ (.skip))))))))),[]⟩
def Ug:C:=zR [0] [zm 2 (zi 0)]
def TQ:C:=zR [2] [zm 3 0,zN 4 3,zF 5 43 1 1 4,zL 6 1 5,zC 7 (zf bI) [6],zm 2 7]
@[go_sem] def gW:Fc:=⟨1,.seq Ug (.seq TQ (.ret)),[.t 2]⟩
def TD:C:=zR [0,1] [zm 4 (zi 0)]
def TJ:C:=zR [0,1,6] [zm 5 0,zB 6 .lss 5 (zi 0)]
def UK:C:=zR [0,1] [zm 7 0,zB 8 .add 7 (zi 1),zq 9 (.un .neg 8),zm 0 9]
def TZ:C:=zR [4] [zm 10 0,zm 11 1,zB 12 .rem 10 11,zm 4 12]
@[go_sem] def gt:Fc:=⟨2,.seq TD (.seq (.seq TJ (.cond (.t 6) UK (.skip))) (.seq TZ (.ret))),[.t 4]⟩
def Ic:C:=zR [0] [zm 2 (zi 0),zm 3 (zi 0)]
def P5:C:=zR [2,3] [zm 4 0,zN 5 4,zF 6 43 1 1 5,zL 7 1 6,zC 8 (zf bf) [7],zE 9 8 0,zE 10 8 1,zm 2 9,zm 3 10]
@[go_sem] def gZ:Fc:=⟨1,.seq Ic (.seq P5 (.ret)),[.t 2,.t 3]⟩
def Ol:C:=zR [0,2,3] [zq 2 (.alloc false (.agg 48 (List.replicate 49 (.agg 42 [(.int .i64 0),(.int .i64 0),(.int .i64 0)])))),zq 3 (.alloc false (.agg 50 (List.replicate 8 (.int .i64 0))))]
def Mi:C:=zD [2,3] [zm 4 0,zN 5 4,zF 6 43 3 48 5,zL 7 48 6,zm 8 0,zN 9 8,zF 10 43 4 50 9,zq 11 (.lda 50 10 0),zw (.sta 48 2 7 [0]),zS 50 3 11]
@[go_sem] def gL:Fc:=⟨1,.seq Ol (.seq Mi (.ret)),[.cell 2 48,.cell 3 50]⟩
def KS:C:=zR [0,2] [zq 2 (.alloc false (.agg 48 (List.replicate 49 (.agg 42 [(.int .i64 0),(.int .i64 0),(.int .i64 0)]))))]
def JR:C:=zR [2] [zm 3 0,zN 4 3,zF 5 43 2 48 4,zL 6 48 5,zS 48 2 6]
@[go_sem] def gg:Fc:=⟨1,.seq KS (.seq JR (.ret)),[.cell 2 48]⟩
def JY:C:=zR [0,1] [zm 4 (zi 0)]
def Jh:C:=zR [0,1,15] [zm 16 0,zN 17 16,zF 18 61 4 1 17,zL 19 1 18,zq 20 (.len false 19),zB 21 .gtr 20 (zi 0),zm 15 21]
def Nr:C:=zR [4] [zm 4 (zi 3)]
def IG:C:=zR [0,1,22] [zm 23 1,zB 24 .lss 23 (zi 0),zm 22 24]
def Pl:C:=zR [0,1,22] [zm 25 1,zB 26 .gtr 25 (zi 1099511627776),zm 22 26]
def LZ:C:=zR [0,1,22] [zm 27 0,zN 28 27,zF 29 61 2 44 28,zF 30 44 0 10 29,zL 31 10 30,zB 32 .geq 31 (zi 1099511627776),zm 22 32]
def QJ:C:=zR [4] [zm 4 (zi 1)]
def Lo:C:=zR [0,1,5] [zm 33 0,zN 34 33,zF 35 61 1 1 34,zL 36 1 35,zC 37 (zf ei) [36],zm 5 37]
def Jc:C:=zR [0,1,5,39] [zm 38 5,zB 39 .neq 38 (zi 0)]
def NI:C:=zR [4] [zm 40 5,zm 4 40]
def Dx:C:=zR [0,1] [zm 42 0,zm 43 0,zN 44 43,zF 45 61 1 1 44,zL 46 1 45,zC 47 (zf bN) [46],zm 41 47,zE 48 41 0,zE 49 41 1,zN 50 42,zF 51 61 6 48 50,zS 48 51 48]
def Cc:C:=zR [0,1,6,7] [zm 53 0,zN 54 53,zF 55 61 1 1 54,zL 56 1 55,zC 57 (zf bo) [56],zm 52 57,zE 58 52 0,zE 59 52 1,zq 6 (.alloc false (.agg 48 (List.replicate 49 (.agg 42 [(.int .i64 0),(.int .i64 0),(.int .i64 0)])))),zq 7 (.alloc false (.agg 50 (List.replicate 8 (.int .i64 0)))),zS 48 6 58,zS 50 7 59]
def Df:C:=zD [0,6] [zm 60 0,zm 61 0,zm 62 1,zL 63 50 7,zN 64 60,zF 65 61 5 10 64,zw (.sta 10 65 62 [7]),zN 66 61,zF 67 61 7 50 66,zS 50 67 63]
def Dd:C:=zR [0,6,8] [zq 8 (.alloc false (.agg 82 (List.replicate 1024 (.bool false))))]
def BW:C:=zR [0,6,8,68,69] [zL 68 48 6,zm 69 (zi 0)]
def CK:C:=zR [0,6,8,68,69,70] [zB 70 .lss 69 (zi 49)]
def Fe:C:=zR [0,6,8,10,68,69] [zq 71 (.idx 48 49 68 69),zq 10 (.alloc false (.agg 42 [(.int .i64 0),(.int .i64 0),(.int .i64 0)])),zS 42 10 71]
def Ct:C:=zR [0,6,8,10,68,69,74] [zF 72 42 0 10 10,zL 73 10 72,zB 74 .neq 73 (zi 0)]
def CE:C:=zR [0,6,8,68,69] [zF 75 42 2 10 10,zL 76 10 75,zq 77 (.iad 82 1024 0 8 76),zS 0 77 (.k (.bool true))]
def DU:C:=zR [0,6,8,68,69] [zB 78 .add 69 (zi 1),zm 69 78]
def CG:C:=zR [0,6,8,82,83] [zm 79 0,zN 80 79,zF 81 61 6 48 80,zL 82 48 81,zm 83 (zi 0)]
def C5:C:=zR [0,6,8,82,83,84] [zB 84 .lss 83 (zi 49)]
def EY:C:=zR [0,6,8,12,82,83] [zq 85 (.idx 48 49 82 83),zq 12 (.alloc false (.agg 42 [(.int .i64 0),(.int .i64 0),(.int .i64 0)])),zS 42 12 85]
def Fz:C:=zR [0,6,8,12,82,83,95] [zF 86 42 0 10 12,zL 87 10 86,zB 88 .neq 87 (zi 0),zm 89 88,zg 90 89 true (.fad 42 2 10 12),zg 91 89 true (.ld 10 90),zg 92 89 true (.iad 82 1024 0 8 91),zg 93 89 true (.ld 0 92),zg 94 89 true (.un .not 93),zP 95 89 94 (.k (.bool false))]
def Fa:C:=zD [0,6,8,82,83] [zm 96 0,zm 97 0,zN 98 97,zF 99 61 4 1 98,zL 100 1 99,zF 101 42 2 10 12,zL 102 10 101,zq 103 (.bld (.agg 47 [.nilf,(.int .i64 0)]) [(0,(zf bP)),(1,102)]),zq 104 (.bsl false 63 47 (.agg 47 [.nilf,(.int .i64 0)]) 1 [(0,103)]),zq 105 (.app true 63 47 100 104),zN 106 96,zF 107 61 4 1 106,zS 1 107 105]
def Ea:C:=zR [0,6,8,82,83] [zB 108 .add 83 (zi 1),zm 83 108]
def ES:C:=zD [0,114,115,116] [zm 109 0,zN 110 109,zF 111 61 6 48 110,zL 112 48 111,zL 113 48 6,zC 114 (zf jh) [112,113],zq 115 (.len false 114),zm 116 (zi 0)]
def Fj:C:=zR [0,114,115,116,117] [zB 117 .lss 116 115]
def Fd:C:=zR [0,14,114,115,116] [zq 118 (.sad 10 114 116),zL 119 10 118,zm 14 119]
def DK:C:=zR [0,114,115,116] [zm 120 0,zm 121 0,zN 122 121,zF 123 61 4 1 122,zL 124 1 123,zm 125 14,zq 126 (.bld (.agg 47 [.nilf,(.int .i64 0)]) [(0,(zf dG)),(1,125)]),zq 127 (.bsl false 63 47 (.agg 47 [.nilf,(.int .i64 0)]) 1 [(0,126)]),zq 128 (.app true 63 47 124 127),zN 129 120,zF 130 61 4 1 129,zS 1 130 128]
def Fw:C:=zR [0,114,115,116] [zB 131 .add 116 (zi 1),zm 116 131]
def Fi:C:=zR [] [zm 132 0,zm 133 0,zN 134 133,zF 135 61 4 1 134,zL 136 1 135,zq 137 (.bld (.agg 47 [.nilf,(.int .i64 0)]) [(0,(zf dE))]),zq 138 (.bld (.agg 47 [.nilf,(.int .i64 0)]) [(0,(zf dm))]),zq 139 (.bld (.agg 47 [.nilf,(.int .i64 0)]) [(0,(zf cS))]),zq 140 (.bsl false 63 47 (.agg 47 [.nilf,(.int .i64 0)]) 3 [(0,137),(1,138),(2,139)]),zq 141 (.app true 63 47 136 140),zN 142 132,zF 143 61 4 1 142,zS 1 143 141]
def Ez:C:=zR [4] [zm 4 (zi 0)]
def dA:C:=.seq CK (.seq (.cond (.t 70) (.skip) (.exit 1)) (.seq (.block 2 (.seq Fe (.seq Ct (.cond (.t 74) CE (.skip))))) DU))
def cF:C:=.seq C5 (.seq (.cond (.t 84) (.skip) (.exit 3)) (.seq (.block 4 (.seq EY (.seq Fz (.cond (.t 95) Fa (.skip))))) Ea))
def eZ:C:=.seq Fj (.seq (.cond (.t 117) (.skip) (.exit 5)) (.seq (.block 6 (.seq Fd DK)) Fw))
@[go_sem] def jg:Fc:=⟨2,.seq JY (.seq (.block 0 (.seq Jh (.cond (.t 15) (.seq Nr (.ret)) (.seq (.seq IG (.cond (.t 22) (.skip) (.seq Pl (.cond (.t 22) (.skip) LZ)))) (.cond (.t 22) (.seq QJ (.ret)) (.skip)))))) (.seq (.seq Lo (.seq Jc (.cond (.t 39) (.seq NI (.ret)) (.skip)))) (.seq Dx (.seq Cc (.seq Df (.seq Dd (.seq (.seq BW (.block 1 (.loop [0,6,8,68,69] dA))) (.seq (.seq CG (.block 3 (.loop [0,6,8,82,83] cF))) (.seq (.seq ES (.block 5 (.loop [0,114,115,116] eZ))) (.seq Fi (.seq Ez (.ret)))))))))))),[.t 4]⟩
def NT:C:=zR [0] [zm 2 (zi 0)]
def Iy:C:=zR [2] [zm 3 0,zN 4 3,zF 5 61 4 1 4,zL 6 1 5,zq 7 (.len false 6),zm 2 7]
@[go_sem] def jx:Fc:=⟨1,.seq NT (.seq Iy (.ret)),[.t 2]⟩
def Jq:C:=zR [0] [zm 2 (.k (.bool false)),zm 3 (zi 0)]
def JI:C:=zR [0,11] [zm 6 0,zN 7 6,zF 8 61 4 1 7,zL 9 1 8,zq 10 (.len false 9),zB 11 .eql 10 (zi 0)]
def Qk:C:=zR [2,3] [zm 2 (.k (.bool false)),zm 3 (zi 3)]
def JL:C:=zR [0,4] [zm 12 0,zN 13 12,zF 14 61 4 1 13,zL 15 1 14,zq 16 (.sad 47 15 (zi 0)),zL 17 47 16,zq 4 (.alloc false (.agg 47 [.nilf,(.int .i64 0)])),zS 47 4 17]
def LU:C:=zR [0,5] [zF 18 47 0 1 4,zL 19 1 18,zm 20 0,zF 21 47 1 10 4,zL 22 10 21,zC 23 19 [20,22],zm 5 23]
def KB:C:=zR [0,5,24] [zm 24 5]
def Iv:C:=zR [0,5,24,26] [zB 27 .eql 24 (zi 0),zm 26 27]
def Kd:C:=zR [0] [zm 28 0,zm 29 0,zN 30 29,zF 31 61 4 1 30,zL 32 1 31,zq 33 (.slc 47 32 (some (zi 1)) none none),zN 34 28,zF 35 61 4 1 34,zS 1 35 33]
def J2:C:=zR [2,3] [zm 36 0,zN 37 36,zF 38 61 4 1 37,zL 39 1 38,zq 40 (.len false 39),zB 41 .eql 40 (zi 0),zm 2 41,zm 3 (zi 0)]
def ND:C:=zR [0,5,42] [zB 43 .eql 24 (zi 10),zm 42 43]
def CF:C:=zR [0,5] [zm 44 0,zN 45 44,zF 46 61 1 1 45,zL 47 1 46,zC 48 (zf dV) [47]]
def D1:C:=zR [5] [zm 49 0,zN 50 49,zF 51 61 4 1 50,zS 1 51 (.k .nils)]
def El:C:=zR [2,3] [zm 52 5,zm 2 (.k (.bool false)),zm 3 52]
def EX:C:=zR [2,3] [zm 25 5,zm 2 (.k (.bool false)),zm 3 25]
@[go_sem] def jt:Fc:=⟨1,.seq Jq (.seq (.seq JI (.cond (.t 11) (.seq Qk (.ret)) (.skip))) (.seq JL (.seq LU (.seq KB (.block 0 (.seq Iv (.cond (.t 26) (.seq Kd (.seq J2 (.ret))) (.seq ND (.cond (.t 42) (.seq CF (.seq D1 (.seq El (.ret)))) (.seq EX (.ret))))))))))),[.t 2,.t 3]⟩
def Jd:C:=zR [0,2] [zq 2 (.alloc false (.agg 48 (List.replicate 49 (.agg 42 [(.int .i64 0),(.int .i64 0),(.int .i64 0)])))),zm 3 (.k (.bool false))]
def Qd:C:=zR [0,2,8] [zm 4 0,zN 5 4,zF 6 43 6 0 5,zL 7 0 6,zq 8 (.un .not 7)]
def JK:C:=zR [2,3] [zL 9 48 2,zS 48 2 9,zm 3 (.k (.bool false))]
def Jb:C:=zR [2,3] [zm 10 0,zN 11 10,zF 12 43 5 48 11,zL 13 48 12,zS 48 2 13,zm 3 (.k (.bool true))]
@[go_sem] def ff:Fc:=⟨1,.seq Jd (.seq (.seq Qd (.cond (.t 8) (.seq JK (.ret)) (.skip))) (.seq Jb (.ret))),[.cell 2 48,.t 3]⟩
def Q0:C:=zR [0,2] [zq 2 (.alloc false (.agg 44 [(.int .i64 0),(.int .i64 0),(.int .i64 0),(.int .i64 0)])),zm 3 (zi 0)]
def Mm:C:=zD [2,3] [zm 4 0,zN 5 4,zF 6 61 2 44 5,zL 7 44 6,zm 8 0,zN 9 8,zF 10 61 3 10 9,zq 11 (.lda 10 10 0),zw (.sta 44 2 7 [0]),zm 3 11]
@[go_sem] def i4:Fc:=⟨1,.seq Q0 (.seq Mm (.ret)),[.cell 2 44,.t 3]⟩
def Q6:C:=zR [0] [zm 2 (.k .nilp),zm 3 (zi 0)]
def M7:C:=zR [0,4,5] [zm 9 0,zq 10 (.len false 9),zC 11 (zf mR) [10],zm 8 11,zE 12 8 0,zE 13 8 1,zm 4 12,zm 5 13]
def Of:C:=zR [0,4,5,15] [zm 14 5,zB 15 .neq 14 (zi 0)]
def Jp:C:=zR [2,3] [zm 16 5,zm 2 (.k .nilp),zm 3 16]
def HZ:C:=zR [4,17,18,19] [zm 17 0,zq 18 (.len false 17),zm 19 (zi 0)]
def Pa:C:=zR [4,17,18,19,20] [zB 20 .lss 19 18]
def JO:C:=zR [4,6,7,17,18,19] [zm 21 19,zq 22 (.sad 24 17 19),zL 23 24 22,zq 7 (.alloc false (.agg 24 (List.replicate 8 (.int .u64 0)))),zm 6 21,zS 24 7 23]
def NJ:C:=zD [4,17,18,19] [zm 24 4,zN 25 24,zF 26 59 0 1 25,zL 27 1 26,zm 28 6,zm 29 4,zN 30 29,zF 31 59 0 1 30,zL 32 1 31,zm 33 6,zL 34 24 7,zL 35 24 7,zq 36 (.sad 55 27 28),zF 37 55 0 24 36,zw (.sta 24 37 34 [7]),zq 38 (.sad 55 32 33),zF 39 55 1 24 38,zS 24 39 35]
def Ra:C:=zR [4,17,18,19] [zB 40 .add 19 (zi 1),zm 19 40]
def QE:C:=zR [2,3] [zm 41 4,zm 2 41,zm 3 (zi 0)]
def lP:C:=.seq Pa (.seq (.cond (.t 20) (.skip) (.exit 0)) (.seq (.block 1 (.seq JO NJ)) Ra))
@[go_sem] def pT:Fc:=⟨1,.seq Q6 (.seq M7 (.seq (.seq Of (.cond (.t 15) (.seq Jp (.ret)) (.skip))) (.seq (.seq HZ (.block 0 (.loop [4,17,18,19] lP))) (.seq QE (.ret))))),[.t 2,.t 3]⟩
def Mt:C:=zR [0,1] [zm 4 (.k .nils)]
def Pk:C:=zR [1,5] [zm 9 0,zq 10 (.mksl true 58 24 (.agg 24 (List.replicate 8 (.int .u64 0))) 9 9),zm 5 10]
def Lr:C:=zR [5,6] [zm 11 1,zC 12 (zf bL) [11],zq 6 (.alloc false (.agg 48 (List.replicate 49 (.agg 42 [(.int .i64 0),(.int .i64 0),(.int .i64 0)])))),zS 48 6 12]
def O0:C:=zR [5,6,7] [zq 13 (.bld (.agg 60 (List.replicate 7 (.int .i64 0))) []),zq 7 (.alloc false (.agg 60 (List.replicate 7 (.int .i64 0)))),zS 60 7 13]
def OF:C:=zR [5,6,7,8] [zm 8 (zi 0)]
def IT:C:=zR [5,6,7,8,15] [zm 14 8,zB 15 .lss 14 (zi 7)]
def Iw:C:=zR [5,6,7,8] [zm 19 5,zm 20 8,zB 21 .add (zi 10) 20,zL 22 48 6,zm 23 8,zC 24 (zf dT) [22,23],zm 18 24,zE 25 18 0,zE 26 18 1,zq 27 (.sad 24 19 21),zS 24 27 25]
def Lu:C:=zR [5,6,7,8] [zm 28 8,zm 29 8,zB 30 .add (zi 10) 29,zq 31 (.iad 60 7 10 7 28),zS 10 31 30]
def Oq:C:=zR [5,6,7,8] [zm 16 8,zB 17 .add 16 (zi 1),zm 8 17]
def Nj:C:=zR [5] [zm 33 5,zL 34 60 7,zC 35 (zf dX) [34],zm 32 35,zE 36 32 0,zE 37 32 1,zq 38 (.sad 24 33 (zi 17)),zS 24 38 36]
def Cg:C:=zR [4] [zm 39 5,zm 4 39]
def db:C:=.seq (.seq IT (.cond (.t 15) (.skip) (.exit 0))) (.seq (.block 1 (.seq Iw Lu)) Oq)
@[go_sem] def fe:Fc:=⟨2,.seq Mt (.seq Pk (.seq Lr (.seq O0 (.seq (.seq OF (.block 0 (.loop [5,6,7,8] db))) (.seq Nj (.seq Cg (.ret))))))),[.t 4]⟩
def Ln:C:=zR [0,1,6,7] [zq 6 (.box false 2),zq 7 (.box false 3),zm 8 (.k .nilp),zm 9 (zi 0)]
def PL:C:=zR [0,6,7,10,11] [zm 18 1,zm 19 0,zC 20 (zf bC) [19],zC 21 (zf gG) [18,20],zm 17 21,zE 22 17 0,zE 23 17 1,zm 10 22,zm 11 23]
def PG:C:=zR [0,6,7,10,11,25] [zm 24 11,zB 25 .neq 24 (zi 0)]
def P9:C:=zR [8,9] [zm 26 11,zm 8 (.k .nilp),zm 9 26]
def Qm:C:=zR [6,7,10,12] [zm 27 0,zm 28 10,zL 29 48 6,zL 30 48 6,zL 31 50 7,zq 32 (.bld (.agg 43 [.nilp,.nilp,(.agg 48 (List.replicate 49 (.agg 42 [(.int .i64 0),(.int .i64 0),(.int .i64 0)]))),(.agg 48 (List.replicate 49 (.agg 42 [(.int .i64 0),(.int .i64 0),(.int .i64 0)]))),(.agg 50 (List.replicate 8 (.int .i64 0))),(.agg 48 (List.replicate 49 (.agg 42 [(.int .i64 0),(.int .i64 0),(.int .i64 0)]))),(.bool false),(.agg 82 (List.replicate 1024 (.bool false)))]) [(0,27),(1,28),(2,29),(3,30),(4,31)]),zq 33 (.box true 32),zm 12 33]
def NA:C:=zR [7,10,12,34,35] [zL 34 48 6,zm 35 (zi 0)]
def Pp:C:=zR [7,10,12,34,35,36] [zB 36 .lss 35 (zi 49)]
def IX:C:=zR [7,10,12,14,34,35] [zq 37 (.idx 48 49 34 35),zq 14 (.alloc false (.agg 42 [(.int .i64 0),(.int .i64 0),(.int .i64 0)])),zS 42 14 37]
def QG:C:=zR [7,10,12,34,35,47] [zF 38 42 0 10 14,zL 39 10 38,zB 40 .neq 39 (zi 0),zm 41 40,zg 42 41 true (.mv 10),zg 43 41 true (.fad 42 2 10 14),zg 44 41 true (.ld 10 43),zg 45 41 true (.call (zf bJ) [42,44]),zg 46 41 true (.bin .neq 45 (zi 0)),zP 47 41 46 (.k (.bool false))]
def OK:C:=zR [8,9] [zm 8 (.k .nilp),zm 9 (zi 21)]
def Ch:C:=zR [7,10,12,34,35] [zB 48 .add 35 (zi 1),zm 35 48]
def BT:C:=zR [10,12,49,50] [zL 49 50 7,zm 50 (zi 0)]
def BX:C:=zR [10,12,49,50,51] [zB 51 .lss 50 (zi 8)]
def BR:C:=zR [10,12,16,49,50] [zq 52 (.idx 50 8 49 50),zm 16 52]
def DC:C:=zR [10,12,49,50,56] [zm 53 10,zm 54 16,zC 55 (zf bJ) [53,54],zB 56 .neq 55 (zi 0)]
def Cf:C:=zR [8,9] [zm 8 (.k .nilp),zm 9 (zi 21)]
def B7:C:=zR [10,12,49,50] [zB 57 .add 50 (zi 1),zm 50 57]
def Dj:C:=zR [12] [zm 58 12,zC 59 (zf bl) [58]]
def E6:C:=zR [8,9] [zm 60 12,zm 8 60,zm 9 (zi 0)]
def eK:C:=.seq Pp (.seq (.cond (.t 36) (.skip) (.exit 0)) (.seq (.block 1 (.seq IX (.seq QG (.cond (.t 47) (.seq OK (.ret)) (.skip))))) Ch))
def gF:C:=.seq BX (.seq (.cond (.t 51) (.skip) (.exit 2)) (.seq (.block 3 (.seq BR (.seq DC (.cond (.t 56) (.seq Cf (.ret)) (.skip))))) B7))
@[go_sem] def lw:Fc:=⟨4,.seq Ln (.seq PL (.seq (.seq PG (.cond (.t 25) (.seq P9 (.ret)) (.skip))) (.seq Qm (.seq (.seq NA (.block 0 (.loop [7,10,12,34,35] eK))) (.seq (.seq BT (.block 2 (.loop [10,12,49,50] gF))) (.seq Dj (.seq E6 (.ret)))))))),[.t 8,.t 9]⟩
def Kt:C:=zR [0,2] [zq 2 (.alloc false (.agg 48 (List.replicate 49 (.agg 42 [(.int .i64 0),(.int .i64 0),(.int .i64 0)]))))]
def IN:C:=zR [0,2,3] [zq 5 (.bld (.agg 48 (List.replicate 49 (.agg 42 [(.int .i64 0),(.int .i64 0),(.int .i64 0)]))) []),zq 3 (.alloc false (.agg 48 (List.replicate 49 (.agg 42 [(.int .i64 0),(.int .i64 0),(.int .i64 0)])))),zS 48 3 5]
def OJ:C:=zR [0,2,3,4] [zm 4 (zi 0)]
def QY:C:=zR [0,2,3,4,12] [zm 6 4,zm 7 0,zB 8 .lss 6 7,zm 9 8,zg 10 9 true (.mv 4),zg 11 9 true (.bin .lss 10 (zi 49)),zP 12 9 11 (.k (.bool false))]
def QV:C:=zR [0,2,3,4] [zm 15 4,zm 16 4,zB 17 .rem 16 (zi 4),zB 18 .add (zi 1) 17,zm 19 4,zm 20 4,zB 21 .add (zi 20) 20,zq 22 (.bld (.agg 42 [(.int .i64 0),(.int .i64 0),(.int .i64 0)]) [(0,18),(1,19),(2,21)]),zq 23 (.iad 48 49 42 3 15),zS 42 23 22]
def Q2:C:=zR [0,2,3,4] [zm 13 4,zB 14 .add 13 (zi 1),zm 4 14]
def OW:C:=zR [2] [zL 24 48 3,zS 48 2 24]
def dh:C:=.seq (.seq QY (.cond (.t 12) (.skip) (.exit 0))) (.seq (.block 1 QV) Q2)
@[go_sem] def fA:Fc:=⟨1,.seq Kt (.seq IN (.seq (.seq OJ (.block 0 (.loop [0,2,3,4] dh))) (.seq OW (.ret)))),[.cell 2 48]⟩
def Va:C:=zR [0] [zq 0 (.alloc false (.agg 50 (List.replicate 8 (.int .i64 0))))]
def VT:C:=zR [0,1] [zq 3 (.bld (.agg 50 (List.replicate 8 (.int .i64 0))) []),zq 1 (.alloc false (.agg 50 (List.replicate 8 (.int .i64 0)))),zS 50 1 3]
def Vh:C:=zR [0,1,2] [zm 2 (zi 0)]
def Vw:C:=zR [0,1,2,5] [zm 4 2,zB 5 .lss 4 (zi 8)]
def VJ:C:=zR [0,1,2] [zm 8 2,zm 9 2,zB 10 .add (zi 10) 9,zq 11 (.iad 50 8 10 1 8),zS 10 11 10]
def Vs:C:=zR [0,1,2] [zm 6 2,zB 7 .add 6 (zi 1),zm 2 7]
def VK:C:=zR [0] [zL 12 50 1,zS 50 0 12]
def nC:C:=.seq (.seq Vw (.cond (.t 5) (.skip) (.exit 0))) (.seq (.block 1 VJ) Vs)
@[go_sem] def jP:Fc:=⟨0,.seq Va (.seq VT (.seq (.seq Vh (.block 0 (.loop [0,1,2] nC))) (.seq VK (.ret)))),[.cell 0 50]⟩
def Jm:C:=zR [0,1,3,6] [zq 6 (.box false 2),zm 8 (.k .nilp)]
def LD:C:=zR [8] [zm 9 0,zm 10 1,zL 11 44 6,zm 12 3,zq 13 (.bld (.agg 61 [.nilp,.nilp,(.agg 44 [(.int .i64 0),(.int .i64 0),(.int .i64 0),(.int .i64 0)]),(.int .i64 0),.nils,(.int .i64 0),(.agg 48 (List.replicate 49 (.agg 42 [(.int .i64 0),(.int .i64 0),(.int .i64 0)]))),(.agg 50 (List.replicate 8 (.int .i64 0)))]) [(0,9),(1,10),(2,11),(3,12)]),zq 14 (.box true 13),zm 8 14]
@[go_sem] def nv:Fc:=⟨4,.seq Jm (.seq LD (.ret)),[.t 8]⟩
def KA:C:=zR [0] [zq 0 (.alloc false (.agg 44 [(.int .i64 0),(.int .i64 0),(.int .i64 0),(.int .i64 0)]))]
def Pw:C:=zR [0] [zq 1 (.bld (.agg 44 [(.int .i64 0),(.int .i64 0),(.int .i64 0),(.int .i64 0)]) [(0,(zi 1)),(1,(zi 17)),(2,(zi 0)),(3,(zi 1))]),zS 44 0 1]
@[go_sem] def fv:Fc:=⟨0,.seq KA (.seq Pw (.ret)),[.cell 0 44]⟩
def N4:C:=zR [0,1,2,3] [zm 8 (zi 0)]
def KD:C:=zR [0,1,2,3,9] [zm 12 0,zm 13 1,zC 14 (zf cd) [12,13],zm 9 14]
def P3:C:=zR [0,1,2,3,9,15] [zm 16 9,zB 17 .eql 16 (zi 1),zm 15 17]
def Ja:C:=zR [0,1,2,3,9,15] [zm 18 2,zB 19 .lss 18 (zi 0),zm 15 19]
def Jx:C:=zR [0,1,2,3,9,15] [zm 20 2,zB 21 .geq 20 (zi 8),zm 15 21]
def It:C:=zR [8] [zm 8 (zi 1)]
def N7:C:=zR [0,1,2,3,9,22] [zm 23 9,zB 24 .neq 23 (zi 0),zm 22 24]
def NY:C:=zR [8] [zm 25 9,zm 8 25]
def M6:C:=zR [0,1,2,3,26] [zm 27 0,zm 28 1,zC 29 (zf bR) [27,28],zm 26 29]
def KH:C:=zD [8] [zm 30 0,zN 31 30,zF 32 43 0 1 31,zL 33 1 32,zm 34 0,zm 35 1,zN 36 34,zF 37 43 2 48 36,zq 38 (.iad 48 49 42 37 35),zF 39 42 2 10 38,zL 40 10 39,zm 41 2,zm 42 3,zC 43 (zf aV) [33,40,41,42],zm 8 43]
def Cr:C:=zR [0,1,2,3,44] [zm 45 0,zN 46 45,zF 47 43 1 1 46,zL 48 1 47,zC 49 (zf bI) [48],zB 50 .eql 49 (zi 0),zm 44 50]
def Eh:C:=zR [8] [zm 8 (zi 10)]
def Eg:C:=zD [0,1,2,3,9,10] [zm 52 0,zN 53 52,zF 54 43 0 1 53,zL 55 1 54,zm 56 0,zm 57 1,zN 58 56,zF 59 43 2 48 58,zq 60 (.iad 48 49 42 59 57),zF 61 42 2 10 60,zL 62 10 61,zq 63 (.pcall (zf gD) [55,62]),zm 51 63,zE 64 51 0,zE 65 51 1,zq 10 (.alloc false (.agg 24 (List.replicate 8 (.int .u64 0)))),zS 24 10 64,zm 9 65]
def Cy:C:=zR [0,1,2,3,9,10,67] [zm 66 9,zB 67 .neq 66 (zi 0)]
def Du:C:=zR [8] [zm 68 9,zm 8 68]
def EE:C:=zR [0,1,10] [zm 69 2,zm 70 3,zq 71 (.iad 24 8 18 10 69),zS 18 71 70]
def Eu:C:=zR [0,1,9,11] [zm 73 0,zL 74 24 10,zC 75 (zf cC) [73,74],zm 72 75,zE 76 72 0,zE 77 72 1,zm 11 76,zm 9 77]
def Dm:C:=zR [0,1,9,11,79] [zm 78 9,zB 79 .neq 78 (zi 0)]
def Cd:C:=zR [8] [zm 80 9,zm 8 80]
def DH:C:=zR [] [zm 81 0,zm 82 1,zm 83 11,zN 84 81,zF 85 43 2 48 84,zq 86 (.iad 48 49 42 85 82),zF 87 42 2 10 86,zS 10 87 83]
def D0:C:=zR [8] [zm 8 (zi 0)]
@[go_sem] def ii:Fc:=⟨4,.seq N4 (.seq KD (.seq (.block 0 (.seq (.seq P3 (.cond (.t 15) (.skip) (.seq Ja (.cond (.t 15) (.skip) Jx)))) (.cond (.t 15) (.seq It (.ret)) (.seq N7 (.cond (.t 22) (.seq NY (.ret)) (.seq M6 (.cond (.t 26) (.seq KH (.ret)) (.seq Cr (.cond (.t 44) (.seq Eh (.ret)) (.skip)))))))))) (.seq Eg (.seq (.seq Cy (.cond (.t 67) (.seq Du (.ret)) (.skip))) (.seq EE (.seq Eu (.seq (.seq Dm (.cond (.t 79) (.seq Cd (.ret)) (.skip))) (.seq DH (.seq D0 (.ret)))))))))),[.t 8]⟩
def P6:C:=zR [0,1] [zm 4 (zi 0),zm 5 (zi 0)]
def Li:C:=zR [0,1,6,7,8] [zm 11 0,zm 12 1,zC 13 (zf dg) [11,12],zm 10 13,zE 14 10 0,zE 15 10 1,zE 16 10 2,zm 6 14,zm 7 15,zm 8 16]
def JV:C:=zR [0,1,6,7,8,18] [zm 17 8,zB 18 .neq 17 (zi 0)]
def K1:C:=zR [4,5] [zm 19 8,zm 4 (zi 0),zm 5 19]
def MT:C:=zR [0,1,6,7,8,9] [zm 21 0,zq 22 (.bld (.agg 24 (List.replicate 8 (.int .u64 0))) []),zC 23 (zf cC) [21,22],zm 20 23,zE 24 20 0,zE 25 20 1,zm 9 24,zm 8 25]
def Jj:C:=zR [0,1,6,7,8,9,27] [zm 26 8,zB 27 .neq 26 (zi 0)]
def Om:C:=zR [4,5] [zm 28 8,zm 4 (zi 0),zm 5 28]
def PZ:C:=zR [6] [zm 29 0,zm 30 6,zm 31 1,zm 32 7,zm 33 9,zq 34 (.bld (.agg 42 [(.int .i64 0),(.int .i64 0),(.int .i64 0)]) [(0,31),(1,32),(2,33)]),zN 35 29,zF 36 43 2 48 35,zq 37 (.iad 48 49 42 36 30),zS 42 37 34]
def IA:C:=zR [4,5] [zm 38 6,zm 4 38,zm 5 (zi 0)]
@[go_sem] def gX:Fc:=⟨2,.seq P6 (.seq Li (.seq (.seq JV (.cond (.t 18) (.seq K1 (.ret)) (.skip))) (.seq MT (.seq (.seq Jj (.cond (.t 27) (.seq Om (.ret)) (.skip))) (.seq PZ (.seq IA (.ret))))))),[.t 4,.t 5]⟩
def PU:C:=zR [0,1] [zm 4 (zi 0)]
def PV:C:=zR [0,1,5] [zm 6 0,zm 7 1,zC 8 (zf cd) [6,7],zm 5 8]
def Mn:C:=zR [0,1,5,10] [zm 9 5,zB 10 .neq 9 (zi 0)]
def Ia:C:=zR [4] [zm 11 5,zm 4 11]
def I0:C:=zR [0,1,14] [zm 12 0,zm 13 1,zC 14 (zf bR) [12,13]]
def PJ:C:=zD [0,1] [zm 15 0,zN 16 15,zF 17 43 1 1 16,zL 18 1 17,zm 19 0,zm 20 1,zN 21 19,zF 22 43 2 48 21,zq 23 (.iad 48 49 42 22 20),zF 24 42 2 10 23,zL 25 10 24,zC 26 (zf ck) [18,25]]
def J5:C:=zD [] [zm 28 0,zm 29 1,zm 30 0,zm 31 1,zN 32 30,zF 33 43 2 48 32,zq 34 (.iad 48 49 42 33 31),zL 35 42 34,zq 36 (.pcall (zf kS) [35]),zm 27 36,zE 37 27 0,zE 38 27 1,zN 39 28,zF 40 43 2 48 39,zq 41 (.iad 48 49 42 40 29),zS 42 41 37]
def MY:C:=zR [4] [zm 4 (zi 0)]
@[go_sem] def iw:Fc:=⟨2,.seq PU (.seq (.seq PV (.seq Mn (.cond (.t 10) (.seq Ia (.ret)) (.skip)))) (.seq (.seq I0 (.cond (.t 14) PJ (.skip))) (.seq J5 (.seq MY (.ret))))),[.t 4]⟩
def QD:C:=zR [0] [zm 2 (zi 0)]
def N8:C:=zR [0,3] [zm 3 (zi 0)]
def K2:C:=zR [3,9,10] [zm 6 0,zN 7 6,zF 8 80 2 78 7,zL 9 78 8,zm 10 (zi 0)]
def Ql:C:=zR [3,9,10,11] [zB 11 .lss 10 (zi 16)]
def ID:C:=zR [3,5,9,10] [zq 12 (.idx 78 16 9 10),zm 5 12]
def Kz:C:=zR [3,9,10] [zm 13 3,zm 14 5,zC 15 (zf dt) [14],zB 16 .add 13 15,zm 3 16]
def Pu:C:=zR [3,9,10] [zB 17 .add 10 (zi 1),zm 10 17]
def OH:C:=zR [2] [zm 18 3,zm 2 18]
def dI:C:=.seq Ql (.seq (.cond (.t 11) (.skip) (.exit 0)) (.seq (.block 1 (.seq ID Kz)) Pu))
@[go_sem] def gY:Fc:=⟨1,.seq QD (.seq N8 (.seq (.seq K2 (.block 0 (.loop [3,9,10] dI))) (.seq OH (.ret)))),[.t 2]⟩
def Qv:C:=zR [0] [zm 2 (zi 0),zm 3 (zi 0)]
def Qh:C:=zR [0,10,11] [zm 7 0,zN 8 7,zF 9 80 2 78 8,zL 10 78 9,zm 11 (zi 0)]
def OA:C:=zR [0,10,11,12] [zB 12 .lss 11 (zi 16)]
def JJ:C:=zR [0,4,5,10,11] [zm 13 11,zq 14 (.idx 78 16 10 11),zm 4 13,zm 5 14]
def NW:C:=zR [0,4,5,10,11,16] [zm 15 5,zB 16 .neq 15 (.k (.int .u64 0))]
def Qx:C:=zR [0,6] [zm 17 4,zB 18 .mul (zi 64) 17,zm 19 5,zC 20 (zf cB) [19],zB 21 .add 18 20,zm 6 21]
def Ni:C:=zR [6] [zm 22 0,zN 23 22,zF 24 80 2 78 23,zm 25 6,zC 26 (zf aT) [24,25]]
def I2:C:=zR [2,3] [zm 27 6,zm 2 27,zm 3 (zi 0)]
def Qf:C:=zR [0,10,11] [zB 28 .add 11 (zi 1),zm 11 28]
def Lv:C:=zR [2,3] [zm 2 (zi 0),zm 3 (zi 10)]
def cn:C:=.seq OA (.seq (.cond (.t 12) (.skip) (.exit 0)) (.seq (.block 1 (.seq JJ (.seq NW (.cond (.t 16) (.seq Qx (.seq Ni (.seq I2 (.ret)))) (.skip))))) Qf))
@[go_sem] def gm:Fc:=⟨1,.seq Qv (.seq (.seq Qh (.block 0 (.loop [0,10,11] cn))) (.seq Lv (.ret))),[.t 2,.t 3]⟩
def Mh:C:=zR [0] [zm 2 (zi 0)]
def K4:C:=zR [0,6] [zm 3 0,zN 4 3,zF 5 43 6 0 4,zL 6 0 5]
def P1:C:=zR [2] [zm 2 (zi 3)]
def I4:C:=zR [0] [zm 7 0,zm 8 0,zm 9 0,zN 10 9,zF 11 43 2 48 10,zL 12 48 11,zN 13 7,zF 14 43 5 48 13,zS 48 14 12,zN 15 8,zF 16 43 6 0 15,zS 0 16 (.k (.bool true))]
def KR:C:=zR [] [zm 17 0,zC 18 (zf bl) [17]]
def Lj:C:=zR [2] [zm 2 (zi 0)]
@[go_sem] def hJ:Fc:=⟨1,.seq Mh (.seq (.seq K4 (.cond (.t 6) (.seq P1 (.ret)) (.skip))) (.seq I4 (.seq KR (.seq Lj (.ret))))),[.t 2]⟩
def LG:C:=zR [0,1] [zm 4 (zi 0)]
def QF:C:=zR [4] [zm 5 0,zN 6 5,zF 7 61 0 1 6,zL 8 1 7,zm 9 1,zC 10 (zf cQ) [8,(zi 0),9],zm 4 10]
@[go_sem] def ja:Fc:=⟨2,.seq LG (.seq QF (.ret)),[.t 4]⟩
def Qr:C:=zR [2,3] [zq 2 (.box false 0),zq 3 (.box false 1),zm 4 (.k .nils)]
def M8:C:=zR [2,3,5] [zm 5 (.k .nils)]
def Mj:C:=zR [2,3,5,7] [zm 7 (zi 0)]
def N2:C:=zR [2,3,5,7,8] [zB 8 .lss 7 (zi 7)]
def Od:C:=zR [2,3,5,6,7] [zm 9 7,zm 6 9]
def OS:C:=zD [2,3,5,6,7,26] [zm 10 6,zB 11 .mul (zi 7) 10,zm 12 6,zB 13 .mul (zi 7) 12,zB 14 .add 13 (zi 7),zq 15 (.slarr 48 49 42 2 (some 11) (some 14) none),zq 16 (.s2a 7 42 15),zq 17 (.ldr 94 7 42 48 16),zm 18 6,zB 19 .mul (zi 7) 18,zm 20 6,zB 21 .mul (zi 7) 20,zB 22 .add 21 (zi 7),zq 23 (.slarr 48 49 42 3 (some 19) (some 22) none),zq 24 (.s2a 7 42 23),zq 25 (.ldr 94 7 42 48 24),zq 26 (.eq true 94 17 25)]
def Ip:C:=zR [2,3,5,7] [zm 27 5,zm 28 6,zq 29 (.bsl false 38 10 (.int .i64 0) 1 [(0,28)]),zq 30 (.app true 38 10 27 29),zm 5 30]
def NO:C:=zR [2,3,5,7] [zB 31 .add 7 (zi 1),zm 7 31]
def KY:C:=zR [4] [zm 32 5,zm 4 32]
def eU:C:=.seq N2 (.seq (.cond (.t 8) (.skip) (.exit 0)) (.seq (.block 1 (.seq Od (.seq OS (.cond (.t 26) Ip (.skip))))) NO))
@[go_sem] def jZ:Fc:=⟨2,.seq Qr (.seq M8 (.seq (.seq Mj (.block 0 (.loop [2,3,5,7] eU))) (.seq KY (.ret)))),[.t 4]⟩
def Nn:C:=zR [0,1] [zm 4 (zi 0)]
def Ov:C:=zR [0,1,5] [zm 8 0,zN 9 8,zF 10 61 6 48 9,zL 11 48 10,zm 12 1,zC 13 (zf iS) [11,12],zm 7 13,zE 14 7 0,zE 15 7 1,zq 5 (.alloc false (.agg 24 (List.replicate 8 (.int .u64 0)))),zS 24 5 14,zm 6 15]
def NE:C:=zD [4] [zm 16 0,zL 17 24 5,zm 18 0,zm 19 1,zN 20 18,zF 21 61 7 50 20,zq 22 (.iad 50 8 10 21 19),zC 23 (zf dn) [16,17,22],zm 4 23]
@[go_sem] def ju:Fc:=⟨2,.seq Nn (.seq Ov (.seq NE (.ret))),[.t 4]⟩
def KM:C:=zR [0] [zm 4 (zi 0)]
def OU:C:=zR [0,5] [zm 8 0,zN 9 8,zF 10 61 7 50 9,zq 11 (.slarr 50 8 10 10 none (some (zi 7)) none),zq 12 (.s2a 7 10 11),zq 13 (.ldr 60 7 10 50 12),zC 14 (zf iU) [13],zm 7 14,zE 15 7 0,zE 16 7 1,zq 5 (.alloc false (.agg 24 (List.replicate 8 (.int .u64 0)))),zS 24 5 15,zm 6 16]
def QR:C:=zD [4] [zm 17 0,zL 18 24 5,zm 19 0,zN 20 19,zF 21 61 7 50 20,zq 22 (.iad 50 8 10 21 (zi 7)),zC 23 (zf dn) [17,18,22],zm 4 23]
@[go_sem] def jw:Fc:=⟨2,.seq KM (.seq OU (.seq QR (.ret))),[.t 4]⟩
def K6:C:=zR [0] [zm 4 (zi 0)]
def JS:C:=zR [4] [zm 5 0,zN 6 5,zF 7 61 0 1 6,zL 8 1 7,zC 9 (zf cT) [8,(zi 0)],zm 4 9]
@[go_sem] def i9:Fc:=⟨2,.seq K6 (.seq JS (.ret)),[.t 4]⟩
def Ms:C:=zR [0] [zm 4 (zi 0)]
def Jy:C:=zD [0,5] [zm 8 0,zN 9 8,zF 10 61 2 44 9,zF 11 44 0 10 10,zL 12 10 11,zB 13 .add 12 (zi 1),zm 14 0,zN 15 14,zF 16 61 7 50 15,zq 17 (.iad 50 8 10 16 (zi 7)),zL 18 10 17,zm 19 0,zN 20 19,zF 21 61 5 10 20,zL 22 10 21,zm 23 0,zN 24 23,zF 25 61 2 44 24,zF 26 44 3 10 25,zL 27 10 26,zq 28 (.bld (.agg 44 [(.int .i64 0),(.int .i64 0),(.int .i64 0),(.int .i64 0)]) [(0,13),(1,18),(2,22),(3,27)]),zq 5 (.alloc false (.agg 44 [(.int .i64 0),(.int .i64 0),(.int .i64 0),(.int .i64 0)])),zS 44 5 28]
def MR:C:=zR [0,5,6] [zm 29 0,zN 30 29,zF 31 61 3 10 30,zL 32 10 31,zB 33 .sub (zi 1) 32,zm 6 33]
def Qo:C:=zD [0,5,6,7] [zm 34 0,zN 35 34,zF 36 61 0 1 35,zL 37 1 36,zm 38 6,zL 39 44 5,zC 40 (zf jG) [37,(zi 0),38,39],zm 7 40]
def Qt:C:=zR [0,5,6,7,42] [zm 41 7,zB 42 .neq 41 (zi 0)]
def ME:C:=zR [4] [zm 43 7,zm 4 43]
def MZ:C:=zD [0,5,6] [zm 44 0,zN 45 44,zF 46 61 1 1 45,zL 47 1 46,zm 48 0,zN 49 48,zF 50 61 7 50 49,zL 51 50 50,zC 52 (zf dM) [47,51]]
def J7:C:=zR [] [zm 53 0,zm 54 0,zL 55 44 5,zm 56 6,zN 57 53,zF 58 61 2 44 57,zS 44 58 55,zN 59 54,zF 60 61 3 10 59,zS 10 60 56]
def Lz:C:=zR [4] [zm 4 (zi 0)]
@[go_sem] def iI:Fc:=⟨2,.seq Ms (.seq Jy (.seq MR (.seq (.seq Qo (.seq Qt (.cond (.t 42) (.seq ME (.ret)) (.skip)))) (.seq MZ (.seq J7 (.seq Lz (.ret))))))),[.t 4]⟩
def PO:C:=zR [0] [zm 2 (zi 0)]
def LH:C:=zR [0,7] [zm 3 0,zN 4 3,zF 5 43 6 0 4,zL 6 0 5,zq 7 (.un .not 6)]
def JB:C:=zR [2] [zm 2 (zi 3)]
def OV:C:=zR [] [zm 8 0,zC 9 (zf bM) [8]]
def MU:C:=zR [2] [zm 2 (zi 0)]
@[go_sem] def fZ:Fc:=⟨1,.seq PO (.seq (.seq LH (.cond (.t 7) (.seq JB (.ret)) (.skip))) (.seq OV (.seq MU (.ret)))),[.t 2]⟩
def MS:C:=zR [0,1] [zm 4 (zi 0)]
def KN:C:=zR [0,1,5] [zm 6 1,zB 7 .lss 6 (zi 0),zm 5 7]
def QH:C:=zR [0,1,5] [zm 8 1,zB 9 .geq 8 (zi 49),zm 5 9]
def Qz:C:=zR [4] [zm 4 (zi 1)]
def Py:C:=zR [10] [zm 11 0,zm 12 1,zN 13 11,zF 14 43 2 48 13,zq 15 (.iad 48 49 42 14 12),zF 16 42 0 10 15,zL 17 10 16,zB 18 .eql 17 (zi 0),zm 10 18]
def Lt:C:=zR [4] [zm 4 (zi 30)]
def Pt:C:=zR [4] [zm 4 (zi 0)]
@[go_sem] def iH:Fc:=⟨2,.seq MS (.seq (.block 0 (.seq (.seq KN (.cond (.t 5) (.skip) QH)) (.cond (.t 5) (.seq Qz (.ret)) (.seq Py (.cond (.t 10) (.seq Lt (.ret)) (.skip)))))) (.seq Pt (.ret))),[.t 4]⟩
def Oj:C:=zR [0,1,4] [zq 4 (.alloc false (.agg 24 (List.replicate 8 (.int .u64 0)))),zm 5 (zi 0)]
def Ke:C:=zR [0,4,6] [zm 7 0,zm 8 1,zC 9 (zf cv) [7,8],zm 6 9]
def Q9:C:=zR [0,4,6,10] [zm 11 6,zq 12 (.eq false 1 11 (.k .nilp)),zm 10 12]
def PH:C:=zR [4,5] [zq 13 (.bld (.agg 24 (List.replicate 8 (.int .u64 0))) []),zS 24 4 13,zm 5 (zi 1)]
def NH:C:=zR [4,6,14] [zm 15 0,zN 16 15,zF 17 59 1 0 16,zL 18 0 17,zm 14 18]
def Qj:C:=zR [4,5] [zq 19 (.bld (.agg 24 (List.replicate 8 (.int .u64 0))) []),zS 24 4 19,zm 5 (zi 4)]
def Ji:C:=zR [4,5] [zm 20 6,zN 21 20,zF 22 55 0 24 21,zL 23 24 22,zS 24 4 23,zm 5 (zi 0)]
@[go_sem] def iQ:Fc:=⟨2,.seq Oj (.seq Ke (.seq (.block 0 (.seq Q9 (.cond (.t 10) (.seq PH (.ret)) (.seq NH (.cond (.t 14) (.seq Qj (.ret)) (.skip)))))) (.seq Ji (.ret)))),[.cell 4 24,.t 5]⟩
def Ly:C:=zR [0] [zm 2 (.k .nilp),zm 3 (zi 0)]
def P7:C:=zR [0,9] [zm 4 0,zB 5 .lss 4 (zi 64),zm 6 5,zg 7 6 false (.mv 0),zg 8 6 false (.bin .gtr 7 (zi 1024)),zP 9 6 (.k (.bool true)) 8]
def Nz:C:=zR [2,3] [zm 2 (.k .nilp),zm 3 (zi 1)]
def Ir:C:=zR [2,3] [zm 10 0,zq 11 (.mksl true 57 55 (.agg 55 [(.agg 24 (List.replicate 8 (.int .u64 0))),(.agg 24 (List.replicate 8 (.int .u64 0))),.nils,(.agg 50 (List.replicate 8 (.int .i64 0)))]) 10 10),zq 12 (.bld (.agg 59 [.nils,(.bool false),(.bool false),(.int .i64 0),(.int .i64 0)]) [(0,11)]),zq 13 (.box true 12),zm 2 13,zm 3 (zi 0)]
@[go_sem] def oD:Fc:=⟨1,.seq Ly (.seq (.seq P7 (.cond (.t 9) (.seq Nz (.ret)) (.skip))) (.seq Ir (.ret))),[.t 2,.t 3]⟩
def MN:C:=zR [1,2,4] [zq 2 (.box false 0),zq 4 (.alloc false (.agg 24 (List.replicate 8 (.int .u64 0)))),zm 5 (zi 0)]
def IK:C:=zR [1,2,4,6] [zq 10 (.bld (.agg 24 (List.replicate 8 (.int .u64 0))) []),zq 6 (.alloc false (.agg 24 (List.replicate 8 (.int .u64 0)))),zS 24 6 10]
def Mp:C:=zR [1,2,4,6,16] [zm 11 1,zB 12 .lss 11 (zi 0),zm 13 12,zg 14 13 false (.mv 1),zg 15 13 false (.bin .geq 14 (zi 7)),zP 16 13 (.k (.bool true)) 15]
def Nx:C:=zR [4,5] [zL 17 24 6,zS 24 4 17,zm 5 (zi 1)]
def Po:C:=zR [1,2,4,6,7] [zm 7 (zi 0)]
def Ow:C:=zR [1,2,4,6,7,19] [zm 18 7,zB 19 .lss 18 (zi 7)]
def KG:C:=zR [1,2,4,6,7,8,9] [zm 23 1,zB 24 .mul (zi 7) 23,zm 25 7,zB 26 .add 24 25,zq 27 (.iad 48 49 42 2 26),zL 28 42 27,zC 29 (zf dZ) [28],zm 22 29,zE 30 22 0,zE 31 22 1,zm 8 30,zm 9 31]
def Nu:C:=zR [1,2,4,6,7,8,33] [zm 32 9,zB 33 .neq 32 (zi 0)]
def JM:C:=zR [4,5] [zq 34 (.bld (.agg 24 (List.replicate 8 (.int .u64 0))) []),zS 24 4 34,zm 5 (zi 1)]
def Qg:C:=zR [1,2,4,6,7] [zm 35 7,zm 36 8,zq 37 (.iad 24 8 18 6 35),zS 18 37 36]
def FD:C:=zR [1,2,4,6,7] [zm 20 7,zB 21 .add 20 (zi 1),zm 7 21]
def D7:C:=zR [4,5] [zL 38 24 6,zC 39 (zf bX) [38],zS 24 4 39,zm 5 (zi 0)]
def cl:C:=.seq (.seq Ow (.cond (.t 19) (.skip) (.exit 0))) (.seq (.block 1 (.seq KG (.seq (.seq Nu (.cond (.t 33) (.seq JM (.ret)) (.skip))) Qg))) FD)
@[go_sem] def gn:Fc:=⟨2,.seq MN (.seq IK (.seq (.seq Mp (.cond (.t 16) (.seq Nx (.ret)) (.skip))) (.seq (.seq Po (.block 0 (.loop [1,2,4,6,7] cl))) (.seq D7 (.ret))))),[.cell 4 24,.t 5]⟩
def MW:C:=zR [1,2] [zq 1 (.box false 0),zq 2 (.alloc false (.agg 24 (List.replicate 8 (.int .u64 0)))),zm 3 (zi 0)]
def Ka:C:=zR [1,2,4] [zq 6 (.bld (.agg 24 (List.replicate 8 (.int .u64 0))) []),zq 4 (.alloc false (.agg 24 (List.replicate 8 (.int .u64 0)))),zS 24 4 6]
def Io:C:=zR [1,2,4,5] [zm 5 (zi 0)]
def LO:C:=zR [1,2,4,5,8] [zm 7 5,zB 8 .lss 7 (zi 7)]
def LJ:C:=zR [1,2,4,5,20] [zm 11 5,zq 12 (.iad 60 7 10 1 11),zL 13 10 12,zB 14 .lss 13 (zi 0),zm 15 14,zg 16 15 false (.mv 5),zg 17 15 false (.iad 60 7 10 1 16),zg 18 15 false (.ld 10 17),zg 19 15 false (.bin .geq 18 (zi 1024)),zP 20 15 (.k (.bool true)) 19]
def M9:C:=zR [2,3] [zq 21 (.bld (.agg 24 (List.replicate 8 (.int .u64 0))) []),zS 24 2 21,zm 3 (zi 1)]
def IR:C:=zR [1,2,4,5] [zm 22 5,zm 23 5,zq 24 (.iad 60 7 10 1 23),zL 25 10 24,zq 26 (.conv .u64 25),zB 27 .or 26 (.k (.int .u64 4294967296)),zq 28 (.iad 24 8 18 4 22),zS 18 28 27]
def PX:C:=zR [1,2,4,5] [zm 9 5,zB 10 .add 9 (zi 1),zm 5 10]
def I5:C:=zR [2,3] [zL 29 24 4,zC 30 (zf bX) [29],zS 24 2 30,zm 3 (zi 0)]
def bH:C:=.seq (.seq LO (.cond (.t 8) (.skip) (.exit 0))) (.seq (.block 1 (.seq (.seq LJ (.cond (.t 20) (.seq M9 (.ret)) (.skip))) IR)) PX)
@[go_sem] def gj:Fc:=⟨1,.seq MW (.seq Ka (.seq (.seq Io (.block 0 (.loop [1,2,4,5] bH))) (.seq I5 (.ret)))),[.cell 2 24,.t 3]⟩
def QM:C:=zR [0,1] [zm 4 (.k .nilp),zm 5 (zi 0)]
def Mv:C:=zR [0,1,18] [zm 8 0,zB 9 .lss 8 (zi 0),zm 10 9,zg 11 10 false (.mv 0),zg 12 10 false (.mv 1),zg 13 10 false (.bin .gtr 11 12),zP 14 10 (.k (.bool true)) 13,zm 15 14,zg 16 15 false (.mv 1),zg 17 15 false (.bin .gtr 16 (zi 1024)),zP 18 15 (.k (.bool true)) 17]
def NC:C:=zR [4,5] [zm 4 (.k .nilp),zm 5 (zi 1)]
def Mf:C:=zR [0,1,6] [zm 19 0,zm 20 1,zq 21 (.bld (.agg 80 [(.int .i64 0),(.int .i64 0),(.agg 78 (List.replicate 16 (.int .u64 0))),(.agg 78 (List.replicate 16 (.int .u64 0)))]) [(0,19),(1,20)]),zq 22 (.box true 21),zm 6 22]
def MD:C:=zR [0,6,25,26] [zm 23 1,zm 24 0,zB 25 .sub 23 24,zm 26 (zi 0)]
def Ko:C:=zR [0,6,25,26,27] [zB 27 .lss 26 25]
def Nb:C:=zR [0,6,7,25,26] [zm 28 26,zm 7 28]
def MG:C:=zR [0,6,25,26] [zm 29 6,zN 30 29,zF 31 80 2 78 30,zm 32 0,zm 33 7,zB 34 .add 32 33,zC 35 (zf aT) [31,34]]
def P2:C:=zR [0,6,25,26] [zB 36 .add 26 (zi 1),zm 26 36]
def O1:C:=zR [4,5] [zm 37 6,zm 4 37,zm 5 (zi 0)]
def jm:C:=.seq Ko (.seq (.cond (.t 27) (.skip) (.exit 0)) (.seq (.block 1 (.seq Nb MG)) P2))
@[go_sem] def lm:Fc:=⟨2,.seq QM (.seq (.seq Mv (.cond (.t 18) (.seq NC (.ret)) (.skip))) (.seq Mf (.seq (.seq MD (.block 0 (.loop [0,6,25,26] jm))) (.seq O1 (.ret))))),[.t 4,.t 5]⟩
def QS:C:=zR [0] [zm 2 (zi 0)]
def Pd:C:=zR [2] [zm 3 0,zN 4 3,zF 5 59 0 1 4,zL 6 1 5,zq 7 (.len false 6),zm 2 7]
@[go_sem] def iD:Fc:=⟨1,.seq QS (.seq Pd (.ret)),[.t 2]⟩
def MC:C:=zR [0,1] [zm 4 (zi 0)]
def Qc:C:=zR [0,1,5] [zm 6 0,zm 7 1,zC 8 (zf bE) [6,7,(zi 0)],zm 5 8]
def NN:C:=zR [0,1,5,10] [zm 9 5,zB 10 .eql 9 (zi 0)]
def LC:C:=zR [5] [zm 11 0,zN 12 11,zF 13 80 2 78 12,zm 14 1,zC 15 (zf aT) [13,14]]
def Jg:C:=zR [4] [zm 16 5,zm 4 16]
@[go_sem] def gM:Fc:=⟨2,.seq MC (.seq Qc (.seq (.seq NN (.cond (.t 10) LC (.skip))) (.seq Jg (.ret)))),[.t 4]⟩
def Q8:C:=zR [0] [zm 2 0,zq 3 (.bld (.agg 82 (List.replicate 1024 (.bool false))) []),zN 4 2,zF 5 43 7 82 4,zS 82 5 3]
def Kl:C:=zD [0] [zm 6 0,zN 7 6,zF 8 43 7 82 7,zm 9 0,zN 10 9,zF 11 43 3 48 10,zL 12 48 11,zC 13 (zf be) [8,12]]
def OQ:C:=zR [0,17] [zm 14 0,zN 15 14,zF 16 43 6 0 15,zL 17 0 16]
def LP:C:=zD [] [zm 18 0,zN 19 18,zF 20 43 7 82 19,zm 21 0,zN 22 21,zF 23 43 5 48 22,zL 24 48 23,zC 25 (zf be) [20,24]]
@[go_sem] def gh:Fc:=⟨1,.seq Q8 (.seq Kl (.seq OQ (.cond (.t 17) LP (.skip)))),[]⟩
def Kw:C:=zR [0,1] [zm 4 (.k (.bool false))]
def Is:C:=zD [4] [zm 5 0,zm 6 0,zm 7 1,zN 8 6,zF 9 43 2 48 8,zq 10 (.iad 48 49 42 9 7),zF 11 42 2 10 10,zL 12 10 11,zN 13 5,zF 14 43 7 82 13,zq 15 (.iad 82 1024 0 14 12),zL 16 0 15,zq 17 (.un .not 16),zm 4 17]
@[go_sem] def iu:Fc:=⟨2,.seq Kw (.seq Is (.ret)),[.t 4]⟩
def NP:C:=zR [0,1,2,3] [zm 8 (zi 0)]
def Kv:C:=zR [0,2,3,9] [zm 11 0,zm 12 1,zC 13 (zf cv) [11,12],zm 9 13]
def K7:C:=zR [0,2,3,9,23] [zm 14 9,zq 15 (.eq false 1 14 (.k .nilp)),zm 16 15,zg 17 16 false (.mv 2),zg 18 16 false (.bin .lss 17 (zi 0)),zP 19 16 (.k (.bool true)) 18,zm 20 19,zg 21 20 false (.mv 2),zg 22 20 false (.bin .geq 21 (zi 8)),zP 23 20 (.k (.bool true)) 22]
def J8:C:=zR [8] [zm 8 (zi 1)]
def QL:C:=zR [2,3,9,10] [zm 24 0,zC 25 (zf a8) [24],zm 10 25]
def QZ:C:=zR [2,3,9,10,27] [zm 26 10,zB 27 .neq 26 (zi 0)]
def IY:C:=zR [8] [zm 28 10,zm 8 28]
def Jl:C:=zR [2,3,9] [zm 29 9,zm 30 2,zm 31 3,zN 32 29,zF 33 55 0 24 32,zq 34 (.iad 24 8 18 33 30),zS 18 34 31]
def QO:C:=zR [] [zm 35 9,zm 36 9,zN 37 36,zF 38 55 2 1 37,zL 39 1 38,zm 40 2,zm 41 3,zq 42 (.bld (.agg 84 [(.int .i64 0),(.int .u64 0)]) [(0,40),(1,41)]),zq 43 (.bsl false 86 84 (.agg 84 [(.int .i64 0),(.int .u64 0)]) 1 [(0,42)]),zq 44 (.app true 86 84 39 43),zN 45 35,zF 46 55 2 1 45,zS 1 46 44]
def PY:C:=zR [8] [zm 8 (zi 0)]
@[go_sem] def iK:Fc:=⟨4,.seq NP (.seq Kv (.seq (.seq K7 (.cond (.t 23) (.seq J8 (.ret)) (.skip))) (.seq (.seq QL (.seq QZ (.cond (.t 27) (.seq IY (.ret)) (.skip)))) (.seq Jl (.seq QO (.seq PY (.ret))))))),[.t 8]⟩
def Ou:C:=zR [0,3] [zq 3 (.box false 1),zm 4 (zi 0),zm 5 (zi 0)]
def JA:C:=zR [0,3,6,7] [zm 12 0,zN 13 12,zF 14 43 1 1 13,zL 15 1 14,zC 16 (zf bf) [15],zm 11 16,zE 17 11 0,zE 18 11 1,zm 6 17,zm 7 18]
def Ih:C:=zR [0,3,6,7,20] [zm 19 7,zB 20 .neq 19 (zi 0)]
def KP:C:=zR [4,5] [zm 21 7,zm 4 (zi 0),zm 5 21]
def Pc:C:=zR [0,6,22,23] [zL 22 24 3,zm 23 (zi 0)]
def Mq:C:=zR [0,6,22,23,24] [zB 24 .lss 23 (zi 8)]
def Ny:C:=zR [0,6,8,9,22,23] [zm 25 23,zq 26 (.idx 24 8 22 23),zm 8 25,zm 9 26]
def Kb:C:=zR [0,6,10,22,23] [zm 27 0,zN 28 27,zF 29 43 0 1 28,zL 30 1 29,zm 31 6,zm 32 8,zm 33 9,zC 34 (zf aV) [30,31,32,33],zm 10 34]
def Mc:C:=zR [0,6,10,22,23,36] [zm 35 10,zB 36 .neq 35 (zi 0)]
def PF:C:=zR [4,5] [zm 37 10,zm 4 (zi 0),zm 5 37]
def C4:C:=zR [0,6,22,23] [zB 38 .add 23 (zi 1),zm 23 38]
def Db:C:=zR [4,5] [zm 39 6,zm 4 39,zm 5 (zi 0)]
def cR:C:=.seq Mq (.seq (.cond (.t 24) (.skip) (.exit 0)) (.seq (.block 1 (.seq Ny (.seq Kb (.seq Mc (.cond (.t 36) (.seq PF (.ret)) (.skip)))))) C4))
@[go_sem] def ig:Fc:=⟨2,.seq Ou (.seq JA (.seq (.seq Ih (.cond (.t 20) (.seq KP (.ret)) (.skip))) (.seq (.seq Pc (.block 0 (.loop [0,6,22,23] cR))) (.seq Db (.ret))))),[.t 4,.t 5]⟩
def Qa:C:=zR [0,1] [zm 4 (zi 0),zm 5 (zi 0),zm 6 (zi 0)]
def Pq:C:=zR [0,9] [zm 9 1]
def P4:C:=zR [0,9,10] [zB 11 .eql 9 (zi 1),zm 10 11]
def II:C:=zR [0,9,10] [zB 12 .eql 9 (zi 2),zm 10 12]
def OM:C:=zR [0,10] [zB 13 .eql 9 (zi 4),zm 10 13]
def N3:C:=zR [4,5,6] [zm 4 (zi 0),zm 5 (zi 0),zm 6 (zi 1)]
def Lp:C:=zR [17,18] [zm 14 0,zN 15 14,zF 16 43 2 48 15,zL 17 48 16,zm 18 (zi 0)]
def Oh:C:=zR [17,18,19] [zB 19 .lss 18 (zi 49)]
def JP:C:=zR [7,8,17,18] [zm 20 18,zq 21 (.idx 48 49 17 18),zq 8 (.alloc false (.agg 42 [(.int .i64 0),(.int .i64 0),(.int .i64 0)])),zm 7 20,zS 42 8 21]
def K9:C:=zR [7,8,17,18,23] [zL 22 42 8,zC 23 (zf km) [22]]
def CS:C:=zD [4,5,6] [zm 24 7,zF 25 42 1 10 8,zL 26 10 25,zm 4 24,zm 5 26,zm 6 (zi 0)]
def CP:C:=zR [17,18] [zB 27 .add 18 (zi 1),zm 18 27]
def Ec:C:=zR [4,5,6] [zm 4 (zi 0),zm 5 (zi 0),zm 6 (zi 34)]
def bp:C:=.seq Oh (.seq (.cond (.t 19) (.skip) (.exit 1)) (.seq (.block 2 (.seq JP (.seq K9 (.cond (.t 23) (.seq CS (.ret)) (.skip))))) CP))
@[go_sem] def gR:Fc:=⟨2,.seq Qa (.seq (.seq Pq (.block 0 (.seq (.seq P4 (.cond (.t 10) (.skip) (.seq II (.cond (.t 10) (.skip) OM)))) (.cond (.t 10) (.skip) (.seq N3 (.ret)))))) (.seq (.seq Lp (.block 1 (.loop [17,18] bp))) (.seq Ec (.ret)))),[.t 4,.t 5,.t 6]⟩
def JC:C:=zR [0,1] [zm 4 (zi 0)]
def OT:C:=zR [0,1,5] [zm 6 0,zm 7 1,zC 8 (zf bE) [6,7,(zi 1)],zm 5 8]
def QP:C:=zR [0,1,5,10] [zm 9 5,zB 10 .eql 9 (zi 0)]
def LQ:C:=zR [5] [zm 11 0,zN 12 11,zF 13 80 2 78 12,zm 14 1,zC 15 (zf aT) [13,14]]
def Lk:C:=zR [4] [zm 16 5,zm 4 16]
@[go_sem] def gQ:Fc:=⟨2,.seq JC (.seq OT (.seq (.seq QP (.cond (.t 10) LQ (.skip))) (.seq Lk (.ret)))),[.t 4]⟩
def MB:C:=zR [1,2] [zq 1 (.box false 0),zq 2 (.alloc false (.agg 42 [(.int .i64 0),(.int .i64 0),(.int .i64 0)])),zm 3 (zi 0)]
def OY:C:=zR [1,2,6] [zF 4 42 0 10 1,zL 5 10 4,zB 6 .eql 5 (zi 0)]
def LV:C:=zR [2,3] [zq 7 (.bld (.agg 42 [(.int .i64 0),(.int .i64 0),(.int .i64 0)]) []),zS 42 2 7,zm 3 (zi 30)]
def Ns:C:=zR [2,3] [zF 8 42 1 10 1,zL 9 10 8,zF 10 42 1 10 1,zL 11 10 10,zB 12 .sub (zi 16777215) 11,zq 13 (.mnx false (zi 1) 12),zB 14 .add 9 13,zq 15 (.bld (.agg 42 [(.int .i64 0),(.int .i64 0),(.int .i64 0)]) [(1,14)]),zS 42 2 15,zm 3 (zi 0)]
@[go_sem] def mi:Fc:=⟨1,.seq MB (.seq (.seq OY (.cond (.t 6) (.seq LV (.ret)) (.skip))) (.seq Ns (.ret))),[.cell 2 42,.t 3]⟩
def Nm:C:=zR [0] [zm 2 (zi 0)]
def PN:C:=zR [0] [zm 3 0,zB 4 .shr 3 (.k (.int .u64 1)),zB 5 .and 4 (.k (.int .u64 6148914691236517205)),zm 6 0,zB 7 .and 6 (.k (.int .u64 6148914691236517205)),zB 8 .add 5 7,zm 0 8]
def Jo:C:=zR [0] [zm 9 0,zB 10 .shr 9 (.k (.int .u64 2)),zB 11 .and 10 (.k (.int .u64 3689348814741910323)),zm 12 0,zB 13 .and 12 (.k (.int .u64 3689348814741910323)),zB 14 .add 11 13,zm 0 14]
def I7:C:=zR [0] [zm 15 0,zB 16 .shr 15 (.k (.int .u64 4)),zm 17 0,zB 18 .add 16 17,zB 19 .and 18 (.k (.int .u64 1085102592571150095)),zm 0 19]
def IP:C:=zR [0] [zm 20 0,zm 21 0,zB 22 .shr 21 (.k (.int .u64 8)),zB 23 .add 20 22,zm 0 23]
def Jv:C:=zR [0] [zm 24 0,zm 25 0,zB 26 .shr 25 (.k (.int .u64 16)),zB 27 .add 24 26,zm 0 27]
def LR:C:=zR [0] [zm 28 0,zm 29 0,zB 30 .shr 29 (.k (.int .u64 32)),zB 31 .add 28 30,zm 0 31]
def Px:C:=zR [2] [zm 32 0,zq 33 (.conv .i64 32),zB 34 .and 33 (zi 127),zm 2 34]
@[go_sem] def eP:Fc:=⟨1,.seq Nm (.seq PN (.seq Jo (.seq I7 (.seq IP (.seq Jv (.seq LR (.seq Px (.ret)))))))),[.t 2]⟩
def M3:C:=zR [0] [zm 2 (zi 0)]
def Lq:C:=zR [0,4] [zm 3 0,zB 4 .eql 3 (.k (.int .u64 0))]
def N5:C:=zR [2] [zm 2 (zi 64)]
def NQ:C:=zR [2] [zm 5 0,zm 6 0,zq 7 (.un .neg 6),zB 8 .and 5 7,zB 9 .mul 8 (.k (.int .u64 285870213051353865)),zB 10 .shr 9 (.k (.int .u64 58)),zq 11 (.iad 108 64 12 (.k wG) 10),zL 12 12 11,zq 13 (.conv .i64 12),zm 2 13]
@[go_sem] def dD:Fc:=⟨1,.seq M3 (.seq (.seq Lq (.cond (.t 4) (.seq N5 (.ret)) (.skip))) (.seq NQ (.ret))),[.t 2]⟩
def OO:C:=zD [] [zm 4 0,zm 5 1,zB 6 .quo 5 (zi 64),zN 7 4,zq 8 (.iad 78 16 18 7 6),zL 9 18 8,zm 10 1,zB 11 .rem 10 (zi 64),zB 12 .shl (.k (.int .u64 1)) 11,zB 13 .xor 9 12,zN 14 4,zq 15 (.iad 78 16 18 14 6),zS 18 15 13]
@[go_sem] def iT:Fc:=⟨2,OO,[]⟩
def Mk:C:=zR [0,1,2] [zm 6 (zi 0)]
def J4:C:=zR [0,1,7] [zm 9 0,zm 10 2,zC 11 (zf cv) [9,10],zm 7 11]
def N9:C:=zR [0,1,7,21] [zm 12 7,zq 13 (.eq false 1 12 (.k .nilp)),zm 14 13,zg 15 14 false (.mv 1),zg 16 14 false (.bin .lss 15 (zi 0)),zP 17 14 (.k (.bool true)) 16,zm 18 17,zg 19 18 false (.mv 1),zg 20 18 false (.bin .geq 19 (zi 8)),zP 21 18 (.k (.bool true)) 20]
def KW:C:=zR [6] [zm 6 (zi 1)]
def Q4:C:=zR [1,7,8] [zm 22 0,zC 23 (zf a8) [22],zm 8 23]
def PD:C:=zR [1,7,8,25] [zm 24 8,zB 25 .neq 24 (zi 0)]
def KE:C:=zR [6] [zm 26 8,zm 6 26]
def My:C:=zD [] [zm 27 7,zm 28 1,zm 29 7,zN 30 29,zF 31 55 2 1 30,zL 32 1 31,zq 33 (.len false 32),zN 34 27,zF 35 55 3 50 34,zq 36 (.iad 50 8 10 35 28),zS 10 36 33]
def K5:C:=zR [6] [zm 6 (zi 0)]
@[go_sem] def iE:Fc:=⟨3,.seq Mk (.seq J4 (.seq (.seq N9 (.cond (.t 21) (.seq KW (.ret)) (.skip))) (.seq (.seq Q4 (.seq PD (.cond (.t 25) (.seq KE (.ret)) (.skip)))) (.seq My (.seq K5 (.ret)))))),[.t 6]⟩
def JZ:C:=zR [1,2,4] [zq 2 (.box false 0),zq 4 (.alloc false (.agg 24 (List.replicate 8 (.int .u64 0)))),zm 5 (zi 0)]
def Iu:C:=zR [1,2,4,15] [zm 10 1,zB 11 .lss 10 (zi 0),zm 12 11,zg 13 12 false (.mv 1),zg 14 12 false (.bin .geq 13 (zi 7)),zP 15 12 (.k (.bool true)) 14]
def P0:C:=zR [4,5] [zq 16 (.bld (.agg 24 (List.replicate 8 (.int .u64 0))) []),zS 24 4 16,zm 5 (zi 1)]
def I9:C:=zR [1,2,4,6] [zq 6 (.alloc false (.agg 24 (List.replicate 8 (.int .u64 0))))]
def Na:C:=zR [1,2,4,6,17] [zm 17 (zi 0)]
def Oe:C:=zR [1,2,4,6,17,18] [zB 18 .lss 17 (zi 7)]
def Ox:C:=zR [1,2,4,6,7,17] [zm 19 17,zm 7 19]
def MA:C:=zR [1,2,4,6,7,8,9,17] [zm 21 1,zB 22 .mul (zi 7) 21,zm 23 7,zB 24 .add 22 23,zq 25 (.iad 48 49 42 2 24),zL 26 42 25,zC 27 (zf j0) [26],zm 20 27,zE 28 20 0,zE 29 20 1,zm 8 28,zm 9 29]
def O8:C:=zR [1,2,4,6,7,8,9,17,31] [zm 30 9,zB 31 .neq 30 (zi 0)]
def Jf:C:=zR [4,5] [zq 32 (.bld (.agg 24 (List.replicate 8 (.int .u64 0))) []),zm 33 9,zS 24 4 32,zm 5 33]
def Cj:C:=zR [1,2,4,6,17] [zm 34 7,zm 35 8,zq 36 (.iad 24 8 18 6 34),zS 18 36 35]
def Fp:C:=zR [1,2,4,6,17] [zB 37 .add 17 (zi 1),zm 17 37]
def ET:C:=zR [4,5] [zL 38 24 6,zC 39 (zf fQ) [38],zS 24 4 39,zm 5 (zi 0)]
def gN:C:=.seq Oe (.seq (.cond (.t 18) (.skip) (.exit 0)) (.seq (.block 1 (.seq Ox (.seq MA (.seq (.seq O8 (.cond (.t 31) (.seq Jf (.ret)) (.skip))) Cj)))) Fp))
@[go_sem] def kZ:Fc:=⟨2,.seq JZ (.seq (.seq Iu (.cond (.t 15) (.seq P0 (.ret)) (.skip))) (.seq I9 (.seq (.seq Na (.block 0 (.loop [1,2,4,6,17] gN))) (.seq ET (.ret))))),[.cell 4 24,.t 5]⟩
def JX:C:=zR [0,2,4] [zq 4 (.box false 1),zm 6 (zi 0)]
def Nv:C:=zR [0,2,4,7,8] [zm 14 0,zN 15 14,zF 16 61 1 1 15,zL 17 1 16,zC 18 (zf cg) [17],zm 13 18,zE 19 13 0,zE 20 13 1,zm 7 19,zm 8 20]
def MJ:C:=zR [0,2,4,7,8,22] [zm 21 8,zB 22 .neq 21 (zi 0)]
def QN:C:=zR [6] [zm 23 8,zm 6 23]
def N6:C:=zR [0,2,7,24,25] [zL 24 24 4,zm 25 (zi 0)]
def LS:C:=zR [0,2,7,24,25,26] [zB 26 .lss 25 (zi 8)]
def Ls:C:=zR [0,2,7,9,10,24,25] [zm 27 25,zq 28 (.idx 24 8 24 25),zm 9 27,zm 10 28]
def LN:C:=zR [0,2,7,11,24,25] [zm 29 0,zN 30 29,zF 31 61 0 1 30,zL 32 1 31,zm 33 7,zm 34 9,zm 35 10,zC 36 (zf aV) [32,33,34,35],zm 11 36]
def OD:C:=zR [0,2,7,11,24,25,38] [zm 37 11,zB 38 .neq 37 (zi 0)]
def IL:C:=zR [6] [zm 39 11,zm 6 39]
def EO:C:=zR [0,2,7,24,25] [zB 40 .add 25 (zi 1),zm 25 40]
def CV:C:=zR [2,7,12] [zm 41 0,zm 42 7,zC 43 (zf bP) [41,42],zm 12 43]
def Da:C:=zR [2,7,12,45] [zm 44 12,zB 45 .neq 44 (zi 0)]
def Ce:C:=zR [6] [zm 46 12,zm 6 46]
def C7:C:=zR [] [zm 47 2,zm 48 7,zN 49 47,zS 10 49 48]
def DG:C:=zR [6] [zm 6 (zi 0)]
def dz:C:=.seq LS (.seq (.cond (.t 26) (.skip) (.exit 0)) (.seq (.block 1 (.seq Ls (.seq LN (.seq OD (.cond (.t 38) (.seq IL (.ret)) (.skip)))))) EO))
@[go_sem] def i7:Fc:=⟨3,.seq JX (.seq Nv (.seq (.seq MJ (.cond (.t 22) (.seq QN (.ret)) (.skip))) (.seq (.seq N6 (.block 0 (.loop [0,2,7,24,25] dz))) (.seq (.seq CV (.seq Da (.cond (.t 45) (.seq Ce (.ret)) (.skip)))) (.seq C7 (.seq DG (.ret))))))),[.t 6]⟩
def LW:C:=zR [1,2] [zq 1 (.box false 0),zq 2 (.alloc false (.agg 24 (List.replicate 8 (.int .u64 0)))),zm 3 (zi 0)]
def IF:C:=zR [1,2,4] [zq 4 (.alloc false (.agg 24 (List.replicate 8 (.int .u64 0))))]
def Ps:C:=zR [2,4,7,8] [zL 7 60 1,zm 8 (zi 0)]
def N0:C:=zR [2,4,7,8,9] [zB 9 .lss 8 (zi 7)]
def Kn:C:=zR [2,4,5,6,7,8] [zm 10 8,zq 11 (.idx 60 7 7 8),zm 5 10,zm 6 11]
def Il:C:=zR [2,4,5,6,7,8,17] [zm 12 6,zB 13 .lss 12 (zi 0),zm 14 13,zg 15 14 false (.mv 6),zg 16 14 false (.bin .geq 15 (zi 1024)),zP 17 14 (.k (.bool true)) 16]
def PQ:C:=zR [2,3] [zq 18 (.bld (.agg 24 (List.replicate 8 (.int .u64 0))) []),zS 24 2 18,zm 3 (zi 1)]
def Jk:C:=zR [2,4,7,8] [zm 19 5,zm 20 6,zq 21 (.conv .u64 20),zB 22 .or (.k (.int .u64 4294967296)) 21,zq 23 (.iad 24 8 18 4 19),zS 18 23 22]
def NK:C:=zR [2,4,7,8] [zB 24 .add 8 (zi 1),zm 8 24]
def PP:C:=zR [2,3] [zL 25 24 4,zC 26 (zf fQ) [25],zS 24 2 26,zm 3 (zi 0)]
def eI:C:=.seq N0 (.seq (.cond (.t 9) (.skip) (.exit 0)) (.seq (.block 1 (.seq Kn (.seq (.seq Il (.cond (.t 17) (.seq PQ (.ret)) (.skip))) Jk))) NK))
@[go_sem] def li:Fc:=⟨1,.seq LW (.seq IF (.seq (.seq Ps (.block 0 (.loop [2,4,7,8] eI))) (.seq PP (.ret)))),[.cell 2 24,.t 3]⟩
def MQ:C:=zR [0,1] [zm 4 (zi 0)]
def K0:C:=zR [0,1,13] [zm 8 1,zB 9 .lss 8 (zi 0),zm 10 9,zg 11 10 false (.mv 1),zg 12 10 false (.bin .geq 11 (zi 8)),zP 13 10 (.k (.bool true)) 12]
def KC:C:=zR [4] [zm 4 (zi 1)]
def Kg:C:=zR [0,1,5] [zm 14 0,zC 15 (zf a8) [14],zm 5 15]
def Kr:C:=zR [0,1,5,17] [zm 16 5,zB 17 .neq 16 (zi 0)]
def ON:C:=zR [4] [zm 18 5,zm 4 18]
def NR:C:=zR [0,1,23,24] [zm 19 0,zN 20 19,zF 21 59 0 1 20,zL 22 1 21,zq 23 (.len false 22),zm 24 (zi 0)]
def Nl:C:=zR [0,1,23,24,25] [zB 25 .lss 24 23]
def LK:C:=zR [0,1,6,23,24] [zm 26 24,zm 6 26]
def I6:C:=zR [0,1,7,23,24] [zm 27 0,zN 28 27,zF 29 59 0 1 28,zL 30 1 29,zm 31 6,zq 32 (.sad 55 30 31),zm 7 32]
def Dz:C:=zR [0,1,7,23,24,39] [zm 33 7,zm 34 1,zN 35 33,zF 36 55 3 50 35,zq 37 (.iad 50 8 10 36 34),zL 38 10 37,zB 39 .gtr 38 (zi 0)]
def Eb:C:=zR [0,1,23,24] [zm 40 7,zm 41 7,zm 42 1,zN 43 41,zF 44 55 3 50 43,zq 45 (.iad 50 8 10 44 42),zL 46 10 45,zC 47 (zf eX) [40,46]]
def En:C:=zR [0,1,23,24] [zB 48 .add 24 (zi 1),zm 24 48]
def EI:C:=zR [4] [zm 4 (zi 0)]
def cZ:C:=.seq Nl (.seq (.cond (.t 25) (.skip) (.exit 0)) (.seq (.block 1 (.seq LK (.seq I6 (.seq Dz (.cond (.t 39) Eb (.skip)))))) En))
@[go_sem] def iM:Fc:=⟨2,.seq MQ (.seq (.seq K0 (.cond (.t 13) (.seq KC (.ret)) (.skip))) (.seq (.seq Kg (.seq Kr (.cond (.t 17) (.seq ON (.ret)) (.skip)))) (.seq (.seq NR (.block 0 (.loop [0,1,23,24] cZ))) (.seq EI (.ret))))),[.t 4]⟩
def MF:C:=zR [0,1,2,7] [zq 7 (.box false 3),zm 8 (zi 0)]
def LM:C:=zR [0,1,2,9,10] [zL 17 44 7,zC 18 (zf kf) [17],zm 16 18,zE 19 16 0,zE 20 16 1,zq 9 (.alloc false (.agg 24 (List.replicate 8 (.int .u64 0)))),zS 24 9 19,zm 10 20]
def Mb:C:=zR [0,1,2,9,30] [zm 21 10,zB 22 .neq 21 (zi 0),zm 23 22,zg 24 23 false (.mv 2),zg 25 23 false (.bin .neq 24 (zi 0)),zg 26 23 false (.mv 25),zg 27 26 true (.mv 2),zg 28 26 true (.bin .neq 27 (zi 1)),zg 29 23 false (.pick 26 28 (.k (.bool false))),zP 30 23 (.k (.bool true)) 29]
def Kc:C:=zR [8] [zm 8 (zi 1)]
def LL:C:=zR [0,1,2,9,11] [zm 31 0,zm 32 2,zC 33 (zf aV) [31,32,(zi 7),(.k (.int .u64 0))],zm 11 33]
def Ig:C:=zR [0,1,2,9,11,35] [zm 34 11,zB 35 .neq 34 (zi 0)]
def Ky:C:=zR [8] [zm 36 11,zm 8 36]
def QQ:C:=zR [0,1,2,37,38] [zL 37 24 9,zm 38 (zi 0)]
def O7:C:=zR [0,1,2,37,38,39] [zB 39 .lss 38 (zi 8)]
def PK:C:=zR [0,1,2,12,13,37,38] [zm 40 38,zq 41 (.idx 24 8 37 38),zm 12 40,zm 13 41]
def Dk:C:=zR [0,1,2,14,37,38] [zm 42 0,zm 43 2,zm 44 12,zm 45 13,zC 46 (zf aV) [42,43,44,45],zm 14 46]
def EW:C:=zR [0,1,2,14,37,38,48] [zm 47 14,zB 48 .neq 47 (zi 0)]
def CX:C:=zR [8] [zm 49 14,zm 8 49]
def CL:C:=zR [0,1,2,37,38] [zB 50 .add 38 (zi 1),zm 38 50]
def Fo:C:=zR [0,1,15] [zm 51 0,zm 52 1,zm 53 2,zC 54 (zf cQ) [51,52,53],zm 15 54]
def FB:C:=zR [0,1,15,56] [zm 55 15,zB 56 .neq 55 (zi 0)]
def CT:C:=zR [8] [zm 57 15,zm 8 57]
def CC:C:=zR [8] [zm 58 0,zm 59 1,zC 60 (zf cT) [58,59],zm 8 60]
def fV:C:=.seq O7 (.seq (.cond (.t 39) (.skip) (.exit 0)) (.seq (.block 1 (.seq PK (.seq Dk (.seq EW (.cond (.t 48) (.seq CX (.ret)) (.skip)))))) CL))
@[go_sem] def kD:Fc:=⟨4,.seq MF (.seq LM (.seq (.seq Mb (.cond (.t 30) (.seq Kc (.ret)) (.skip))) (.seq (.seq LL (.seq Ig (.cond (.t 35) (.seq Ky (.ret)) (.skip)))) (.seq (.seq QQ (.block 0 (.loop [0,1,2,37,38] fV))) (.seq (.seq Fo (.seq FB (.cond (.t 56) (.seq CT (.ret)) (.skip)))) (.seq CC (.ret))))))),[.t 8]⟩
def MX:C:=zR [0,3] [zq 3 (.box false 1),zm 4 (zi 0)]
def KK:C:=zR [0,3,9] [zm 5 0,zN 6 5,zF 7 43 6 0 6,zL 8 0 7,zq 9 (.un .not 8)]
def LE:C:=zR [4] [zm 4 (zi 3)]
def No:C:=zD [0] [zm 10 0,zm 11 0,zm 12 0,zN 13 12,zF 14 43 5 48 13,zL 15 48 14,zL 16 50 3,zN 17 10,zF 18 43 3 48 17,zw (.sta 48 18 15 [3]),zN 19 11,zF 20 43 4 50 19,zS 50 20 16]
def Ie:C:=zR [] [zm 21 0,zC 22 (zf bM) [21]]
def Pz:C:=zR [4] [zm 4 (zi 0)]
@[go_sem] def fq:Fc:=⟨2,.seq MX (.seq (.seq KK (.cond (.t 9) (.seq LE (.ret)) (.skip))) (.seq No (.seq Ie (.seq Pz (.ret))))),[.t 4]⟩
def Mw:C:=zR [0] [zm 6 0,zN 7 6,zF 8 43 6 0 7,zS 0 8 (.k (.bool false))]
def JW:C:=zR [0] [zm 9 0,zC 10 (zf bl) [9]]
def PS:C:=zR [0,2] [zm 11 0,zN 12 11,zF 13 43 7 82 12,zL 14 82 13,zq 2 (.alloc false (.agg 82 (List.replicate 1024 (.bool false)))),zS 82 2 14]
def Md:C:=zR [0,2] [zm 15 0,zN 16 15,zF 17 43 2 48 16,zL 18 48 17,zC 19 (zf be) [2,18]]
def Km:C:=zR [0,2,23,24] [zm 20 0,zN 21 20,zF 22 43 4 50 21,zL 23 50 22,zm 24 (zi 0)]
def O2:C:=zR [0,2,23,24,25] [zB 25 .lss 24 (zi 8)]
def Pf:C:=zR [0,2,4,23,24] [zq 26 (.idx 50 8 23 24),zm 4 26]
def J0:C:=zR [0,2,4,23,24,32] [zm 27 4,zB 28 .geq 27 (zi 0),zm 29 28,zg 30 29 true (.mv 4),zg 31 29 true (.bin .lss 30 (zi 1024)),zP 32 29 31 (.k (.bool false))]
def JT:C:=zR [0,2,23,24] [zm 33 4,zq 34 (.iad 82 1024 0 2 33),zS 0 34 (.k (.bool true))]
def Pb:C:=zR [0,2,23,24] [zB 35 .add 24 (zi 1),zm 24 35]
def C3:C:=zR [0,2,40,41] [zm 36 0,zN 37 36,zF 38 43 0 1 37,zL 39 1 38,zC 40 (zf bC) [39],zm 41 (zi 0)]
def B9:C:=zR [0,2,40,41,42] [zB 42 .lss 41 40]
def C9:C:=zR [0,2,5,40,41] [zm 43 41,zm 5 43]
def DZ:C:=zR [0,2,5,40,41,56] [zm 44 5,zq 45 (.iad 82 1024 0 2 44),zL 46 0 45,zq 47 (.un .not 46),zm 48 47,zg 49 48 true (.mv 0),zg 50 48 true (.nilc 49),zg 51 48 true (.fad 43 1 1 50),zg 52 48 true (.ld 1 51),zg 53 48 true (.mv 5),zg 54 48 true (.call (zf bA) [52,53]),zg 55 48 true (.bin .eql 54 (zi 1)),zP 56 48 55 (.k (.bool false))]
def Dy:C:=zR [0,2,40,41] [zm 57 0,zN 58 57,zF 59 43 1 1 58,zL 60 1 59,zm 61 5,zC 62 (zf bV) [60,61]]
def CI:C:=zR [0,2,40,41] [zB 63 .add 41 (zi 1),zm 41 63]
def B8:C:=zR [] [zm 64 0,zN 65 64,zF 66 43 1 1 65,zL 67 1 66,zC 68 (zf cG) [67]]
def bw:C:=.seq O2 (.seq (.cond (.t 25) (.skip) (.exit 0)) (.seq (.block 1 (.seq Pf (.seq J0 (.cond (.t 32) JT (.skip))))) Pb))
def bv:C:=.seq B9 (.seq (.cond (.t 42) (.skip) (.exit 2)) (.seq (.block 3 (.seq C9 (.seq DZ (.cond (.t 56) Dy (.skip))))) CI))
@[go_sem] def fj:Fc:=⟨1,.seq Mw (.seq JW (.seq PS (.seq Md (.seq (.seq Km (.block 0 (.loop [0,2,23,24] bw))) (.seq (.seq C3 (.block 2 (.loop [0,2,40,41] bv))) B8))))),[]⟩
def Im:C:=zR [0,1] [zm 4 (.k .nilp)]
def Jn:C:=zR [0,1,15] [zm 5 1,zB 6 .lss 5 (zi 0),zm 7 6,zg 8 7 false (.mv 1),zg 9 7 false (.mv 0),zg 10 7 false (.nilc 9),zg 11 7 false (.fad 59 0 1 10),zg 12 7 false (.ld 1 11),zg 13 7 false (.len false 12),zg 14 7 false (.bin .geq 8 13),zP 15 7 (.k (.bool true)) 14]
def JD:C:=zR [4] [zm 4 (.k .nilp)]
def M4:C:=zR [4] [zm 16 0,zN 17 16,zF 18 59 0 1 17,zL 19 1 18,zm 20 1,zq 21 (.sad 55 19 20),zm 4 21]
@[go_sem] def jI:Fc:=⟨2,.seq Im (.seq (.seq Jn (.cond (.t 15) (.seq JD (.ret)) (.skip))) (.seq M4 (.ret))),[.t 4]⟩
def PE:C:=zR [1] [zq 1 (.box false 0),zm 2 (.k (.int .u64 0)),zm 3 (zi 0)]
def Mg:C:=zR [1,43] [zF 6 42 0 10 1,zL 7 10 6,zB 8 .lss 7 (zi 0),zm 9 8,zg 10 9 false (.fad 42 0 10 1),zg 11 9 false (.ld 10 10),zg 12 9 false (.bin .gtr 11 (zi 4)),zP 13 9 (.k (.bool true)) 12,zm 14 13,zg 15 14 false (.fad 42 1 10 1),zg 16 14 false (.ld 10 15),zg 17 14 false (.bin .lss 16 (zi 0)),zP 18 14 (.k (.bool true)) 17,zm 19 18,zg 20 19 false (.fad 42 1 10 1),zg 21 19 false (.ld 10 20),zg 22 19 false (.bin .gtr 21 (zi 16777215)),zP 23 19 (.k (.bool true)) 22,zm 24 23,zg 25 24 false (.fad 42 2 10 1),zg 26 24 false (.ld 10 25),zg 27 24 false (.bin .lss 26 (zi 0)),zP 28 24 (.k (.bool true)) 27,zm 29 28,zg 30 29 false (.fad 42 2 10 1),zg 31 29 false (.ld 10 30),zg 32 29 false (.bin .geq 31 (zi 1024)),zP 33 29 (.k (.bool true)) 32,zm 34 33,zg 35 34 false (.fad 42 0 10 1),zg 36 34 false (.ld 10 35),zg 37 34 false (.bin .eql 36 (zi 0)),zg 38 34 false (.mv 37),zg 39 38 true (.fad 42 2 10 1),zg 40 38 true (.ld 10 39),zg 41 38 true (.bin .neq 40 (zi 0)),zg 42 34 false (.pick 38 41 (.k (.bool false))),zP 43 34 (.k (.bool true)) 42]
def PW:C:=zR [2,3] [zm 2 (.k (.int .u64 0)),zm 3 (zi 1)]
def PA:C:=zR [1,4] [zF 45 42 0 10 1,zL 46 10 45,zq 47 (.conv .u64 46),zC 48 (zf aR) [(.k (.int .u64 0)),(zi 0),(zi 4),47],zm 44 48,zE 49 44 0,zE 50 44 1,zm 4 49,zm 5 50]
def If:C:=zR [1,4] [zm 52 4,zF 53 42 1 10 1,zL 54 10 53,zq 55 (.conv .u64 54),zC 56 (zf aR) [52,(zi 4),(zi 24),55],zm 51 56,zE 57 51 0,zE 58 51 1,zm 4 57]
def Ij:C:=zR [2,3] [zm 59 4,zF 60 42 2 10 1,zL 61 10 60,zq 62 (.conv .u64 61),zC 63 (zf aR) [59,(zi 28),(zi 16),62],zE 64 63 0,zE 65 63 1,zm 2 64,zm 3 65]
@[go_sem] def gk:Fc:=⟨1,.seq PE (.seq (.seq Mg (.cond (.t 43) (.seq PW (.ret)) (.skip))) (.seq PA (.seq If (.seq Ij (.ret))))),[.t 2,.t 3]⟩
def Mz:C:=zR [1,2] [zq 1 (.box false 0),zq 2 (.alloc false (.agg 24 (List.replicate 8 (.int .u64 0))))]
def NF:C:=zR [1,2,3] [zL 4 24 1,zC 5 (zf dN) [4],zq 3 (.alloc false (.agg 108 (List.replicate 64 (.int .u8 0)))),zS 108 3 5]
def NX:C:=zR [1,2] [zq 6 (.slarr 108 64 12 3 none (some (zi 56)) none),zC 7 (zf eu) [6],zq 8 (.conv .u64 7),zB 9 .or 8 (.k (.int .u64 4294967296)),zq 10 (.iad 24 8 18 1 (zi 7)),zS 18 10 9]
def PC:C:=zR [2] [zL 11 24 1,zS 24 2 11]
@[go_sem] def fW:Fc:=⟨1,.seq Mz (.seq NF (.seq NX (.seq PC (.ret)))),[.cell 2 24]⟩
def Kj:C:=zR [0,1,2] [zm 6 (zi 0)]
def Ix:C:=zR [2,9] [zm 7 0,zm 8 1,zC 9 (zf bA) [7,8]]
def LI:C:=zR [2,9,10] [zB 11 .eql 9 (zi (-1)),zm 10 11]
def NU:C:=zR [6] [zm 6 (zi 1)]
def Q7:C:=zR [12] [zm 13 2,zB 14 .eql 9 13,zm 12 14]
def Qb:C:=zR [6] [zm 6 (zi 0)]
def Pn:C:=zR [6] [zm 6 (zi 3)]
@[go_sem] def iG:Fc:=⟨3,.seq Kj (.seq (.seq Ix (.block 0 (.seq LI (.cond (.t 10) (.seq NU (.ret)) (.seq Q7 (.cond (.t 12) (.seq Qb (.ret)) (.skip))))))) (.seq Pn (.ret))),[.t 6]⟩
def Qy:C:=zR [0,3] [zq 3 (.box false 1)]
def OX:C:=zR [0,6,7] [zL 6 48 3,zm 7 (zi 0)]
def KL:C:=zR [0,6,7,8] [zB 8 .lss 7 (zi 49)]
def Qu:C:=zR [0,5,6,7] [zq 9 (.idx 48 49 6 7),zq 5 (.alloc false (.agg 42 [(.int .i64 0),(.int .i64 0),(.int .i64 0)])),zS 42 5 9]
def KX:C:=zR [0,5,6,7,12] [zF 10 42 0 10 5,zL 11 10 10,zB 12 .neq 11 (zi 0)]
def IQ:C:=zD [0,6,7] [zm 13 0,zF 14 42 2 10 5,zL 15 10 14,zN 16 13,zq 17 (.iad 82 1024 0 16 15),zS 0 17 (.k (.bool true))]
def O5:C:=zR [0,6,7] [zB 18 .add 7 (zi 1),zm 7 18]
def aZ:C:=.seq KL (.seq (.cond (.t 8) (.skip) (.exit 0)) (.seq (.block 1 (.seq Qu (.seq KX (.cond (.t 12) IQ (.skip))))) O5))
@[go_sem] def ik:Fc:=⟨2,.seq Qy (.seq OX (.block 0 (.loop [0,6,7] aZ))),[]⟩
def KO:C:=zR [0] [zm 2 (zi 0)]
def MP:C:=zR [0,13] [zm 3 0,zN 4 3,zF 5 59 2 0 4,zL 6 0 5,zm 7 6,zg 8 7 true (.mv 0),zg 9 7 true (.nilc 8),zg 10 7 true (.fad 59 3 10 9),zg 11 7 true (.ld 10 10),zg 12 7 true (.bin .eql 11 (zi 0)),zP 13 7 12 (.k (.bool false))]
def QT:C:=zR [0] [zm 14 0,zN 15 14,zF 16 59 1 0 15,zS 0 16 (.k (.bool true))]
def Mr:C:=zR [0,20] [zm 17 0,zN 18 17,zF 19 59 1 0 18,zL 20 0 19]
def JU:C:=zR [2] [zm 2 (zi 4)]
def QI:C:=zR [0,24] [zm 21 0,zN 22 21,zF 23 59 2 0 22,zL 24 0 23]
def ML:C:=zR [0] [zm 25 0,zN 26 25,zF 27 59 3 10 26,zL 28 10 27,zB 29 .sub 28 (zi 1),zN 30 25,zF 31 59 3 10 30,zS 10 31 29]
def QX:C:=zR [] [zm 32 0,zN 33 32,zF 34 59 4 10 33,zL 35 10 34,zB 36 .add 35 (zi 1),zN 37 32,zF 38 59 4 10 37,zS 10 38 36]
def Iz:C:=zR [2] [zm 2 (zi 0)]
@[go_sem] def iZ:Fc:=⟨1,.seq KO (.seq (.seq MP (.cond (.t 13) QT (.skip))) (.seq (.seq Mr (.cond (.t 20) (.seq JU (.ret)) (.skip))) (.seq (.seq QI (.cond (.t 24) ML (.skip))) (.seq QX (.seq Iz (.ret)))))),[.t 2]⟩
def Mu:C:=zR [1] [zq 1 (.box false 0),zm 2 (.k (.bool false))]
def IB:C:=zR [2] [zF 3 42 0 10 1,zL 4 10 3,zB 5 .eql 4 (zi 0),zm 6 5,zg 7 6 true (.fad 42 1 10 1),zg 8 6 true (.ld 10 7),zg 9 6 true (.bin .lss 8 (zi 16777215)),zP 10 6 9 (.k (.bool false)),zm 2 10]
@[go_sem] def lA:Fc:=⟨1,.seq Mu (.seq IB (.ret)),[.t 2]⟩
def Oi:C:=zR [1] [zq 1 (.box false 0),zm 2 (.k (.int .u64 0)),zm 3 (zi 0)]
def Oc:C:=zR [1,29] [zF 4 42 0 10 1,zL 5 10 4,zC 6 (zf cU) [5,(zi 0),(zi 4)],zq 7 (.un .not 6),zm 8 7,zg 9 8 false (.fad 42 1 10 1),zg 10 8 false (.ld 10 9),zg 11 8 false (.call (zf cU) [10,(zi 0),(zi 16777215)]),zg 12 8 false (.un .not 11),zP 13 8 (.k (.bool true)) 12,zm 14 13,zg 15 14 false (.fad 42 2 10 1),zg 16 14 false (.ld 10 15),zg 17 14 false (.call (zf cU) [16,(zi 0),(zi 1023)]),zg 18 14 false (.un .not 17),zP 19 14 (.k (.bool true)) 18,zm 20 19,zg 21 20 false (.fad 42 0 10 1),zg 22 20 false (.ld 10 21),zg 23 20 false (.bin .eql 22 (zi 0)),zg 24 20 false (.mv 23),zg 25 24 true (.fad 42 2 10 1),zg 26 24 true (.ld 10 25),zg 27 24 true (.bin .neq 26 (zi 0)),zg 28 20 false (.pick 24 27 (.k (.bool false))),zP 29 20 (.k (.bool true)) 28]
def Qq:C:=zR [2,3] [zm 2 (.k (.int .u64 0)),zm 3 (zi 1)]
def KU:C:=zR [2,3] [zF 30 42 0 10 1,zL 31 10 30,zq 32 (.conv .u64 31),zF 33 42 1 10 1,zL 34 10 33,zq 35 (.conv .u64 34),zB 36 .shl 35 (.k (.int .u64 4)),zB 37 .or 32 36,zF 38 42 2 10 1,zL 39 10 38,zq 40 (.conv .u64 39),zB 41 .shl 40 (.k (.int .u64 28)),zB 42 .or 37 41,zm 2 42,zm 3 (zi 0)]
@[go_sem] def lb:Fc:=⟨1,.seq Oi (.seq (.seq Oc (.cond (.t 29) (.seq Qq (.ret)) (.skip))) (.seq KU (.ret))),[.t 2,.t 3]⟩
def QU:C:=zR [1,2] [zq 1 (.box false 0),zq 2 (.alloc false (.agg 24 (List.replicate 8 (.int .u64 0))))]
def Jr:C:=zR [1,2,3] [zL 4 24 1,zC 5 (zf ko) [4],zq 3 (.alloc false (.agg 108 (List.replicate 64 (.int .u8 0)))),zS 108 3 5]
def OB:C:=zR [1,2] [zq 6 (.slarr 108 64 12 3 none (some (zi 56)) none),zC 7 (zf mQ) [6],zq 8 (.conv .u64 7),zB 9 .or (.k (.int .u64 4294967296)) 8,zq 10 (.iad 24 8 18 1 (zi 7)),zS 18 10 9]
def Id:C:=zR [2] [zL 11 24 1,zS 24 2 11]
@[go_sem] def nc:Fc:=⟨1,.seq QU (.seq Jr (.seq OB (.seq Id (.ret)))),[.cell 2 24]⟩
def Ob:C:=zR [0,1,12,13,14] [zm 7 0,zN 8 7,zF 9 55 2 1 8,zL 10 1 9,zm 11 1,zq 12 (.slc 84 10 none (some 11) none),zq 13 (.len false 12),zm 14 (zi 0)]
def Ma:C:=zR [0,1,12,13,14,15] [zB 15 .lss 14 13]
def Lw:C:=zR [0,1,5,12,13,14] [zq 16 (.sad 84 12 14),zL 17 84 16,zq 5 (.alloc false (.agg 84 [(.int .i64 0),(.int .u64 0)])),zS 84 5 17]
def Ph:C:=zD [0,1,12,13,14] [zm 18 0,zF 19 84 0 10 5,zL 20 10 19,zF 21 84 1 18 5,zL 22 18 21,zN 23 18,zF 24 55 1 24 23,zq 25 (.iad 24 8 18 24 20),zS 18 25 22]
def PM:C:=zR [0,1,12,13,14] [zB 26 .add 14 (zi 1),zm 14 26]
def IH:C:=zR [0,1] [zm 27 0,zm 28 0,zN 29 28,zF 30 55 2 1 29,zL 31 1 30,zm 32 1,zq 33 (.slc 84 31 (some 32) none none),zC 34 (zf dj) [33],zN 35 27,zF 36 55 2 1 35,zS 1 36 34]
def Js:C:=zR [0,1,37] [zm 37 (zi 0)]
def Me:C:=zR [0,1,37,38] [zB 38 .lss 37 (zi 8)]
def NG:C:=zR [0,1,6,37] [zm 39 37,zm 6 39]
def Lc:C:=zD [0,1,37] [zm 40 0,zm 41 6,zm 42 0,zm 43 6,zN 44 42,zF 45 55 3 50 44,zq 46 (.iad 50 8 10 45 43),zL 47 10 46,zm 48 1,zB 49 .sub 47 48,zq 50 (.mnx true (zi 0) 49),zN 51 40,zF 52 55 3 50 51,zq 53 (.iad 50 8 10 52 41),zS 10 53 50]
def Fh:C:=zR [0,1,37] [zB 54 .add 37 (zi 1),zm 37 54]
def dY:C:=.seq Ma (.seq (.cond (.t 15) (.skip) (.exit 0)) (.seq (.block 1 (.seq Lw Ph)) PM))
def dU:C:=.seq Me (.seq (.cond (.t 38) (.skip) (.exit 2)) (.seq (.block 3 (.seq NG Lc)) Fh))
@[go_sem] def it:Fc:=⟨2,.seq (.seq Ob (.block 0 (.loop [0,1,12,13,14] dY))) (.seq IH (.seq Js (.block 2 (.loop [0,1,37] dU)))),[]⟩
def QK:C:=zR [1,2] [zq 1 (.box false 0),zq 2 (.alloc false (.agg 24 (List.replicate 8 (.int .u64 0)))),zm 3 (zi 0)]
def Ib:C:=zR [1,2,25] [zF 4 44 0 10 1,zL 5 10 4,zC 6 (zf bO) [5,(zi 1),(zi 1099511627776)],zq 7 (.un .not 6),zm 8 7,zg 9 8 false (.fad 44 1 10 1),zg 10 8 false (.ld 10 9),zg 11 8 false (.call (zf bO) [10,(zi 0),(zi 1023)]),zg 12 8 false (.un .not 11),zP 13 8 (.k (.bool true)) 12,zm 14 13,zg 15 14 false (.fad 44 2 10 1),zg 16 14 false (.ld 10 15),zg 17 14 false (.call (zf bO) [16,(zi 0),(zi 1099511627776)]),zg 18 14 false (.un .not 17),zP 19 14 (.k (.bool true)) 18,zm 20 19,zg 21 20 false (.fad 44 3 10 1),zg 22 20 false (.ld 10 21),zg 23 20 false (.call (zf bO) [22,(zi 1),(zi 8)]),zg 24 20 false (.un .not 23),zP 25 20 (.k (.bool true)) 24]
def Qs:C:=zR [2,3] [zq 26 (.bld (.agg 24 (List.replicate 8 (.int .u64 0))) []),zS 24 2 26,zm 3 (zi 1)]
def LT:C:=zR [2,3] [zF 27 44 0 10 1,zL 28 10 27,zq 29 (.conv .u64 28),zF 30 44 1 10 1,zL 31 10 30,zq 32 (.conv .u64 31),zF 33 44 2 10 1,zL 34 10 33,zq 35 (.conv .u64 34),zF 36 44 3 10 1,zL 37 10 36,zq 38 (.conv .u64 37),zq 39 (.bld (.agg 24 (List.replicate 8 (.int .u64 0))) [(0,(.k (.int .u64 1526644958))),(1,29),(2,32),(3,35),(4,38)]),zC 40 (zf fQ) [39],zS 24 2 40,zm 3 (zi 0)]
@[go_sem] def lj:Fc:=⟨1,.seq QK (.seq (.seq Ib (.cond (.t 25) (.seq Qs (.ret)) (.skip))) (.seq LT (.ret))),[.cell 2 24,.t 3]⟩
def O3:C:=zR [0,1] [zm 4 (zi 0)]
def Je:C:=zR [0,1,5] [zm 6 1,zm 7 0,zN 8 7,zF 9 80 0 10 8,zL 10 10 9,zB 11 .lss 6 10,zm 5 11]
def Pv:C:=zR [0,1,5] [zm 12 1,zm 13 0,zN 14 13,zF 15 80 1 10 14,zL 16 10 15,zB 17 .geq 12 16,zm 5 17]
def Ik:C:=zR [4] [zm 4 (zi (-1))]
def I8:C:=zR [0,1,18] [zm 19 0,zN 20 19,zF 21 80 2 78 20,zm 22 1,zC 23 (zf cP) [21,22],zm 18 23]
def M5:C:=zR [4] [zm 4 (zi 0)]
def Nf:C:=zR [24] [zm 25 0,zN 26 25,zF 27 80 3 78 26,zm 28 1,zC 29 (zf cP) [27,28],zm 24 29]
def KT:C:=zR [4] [zm 4 (zi 2)]
def Nd:C:=zR [4] [zm 4 (zi 1)]
@[go_sem] def ga:Fc:=⟨2,.seq O3 (.seq (.block 0 (.seq (.seq Je (.cond (.t 5) (.skip) Pv)) (.cond (.t 5) (.seq Ik (.ret)) (.seq I8 (.cond (.t 18) (.seq M5 (.ret)) (.seq Nf (.cond (.t 24) (.seq KT (.ret)) (.skip)))))))) (.seq Nd (.ret))),[.t 4]⟩
def Kk:C:=zR [0,1] [zm 4 (zi 0)]
def J6:C:=zR [0,1,5] [zm 6 0,zm 7 1,zC 8 (zf bE) [6,7,(zi 1)],zm 5 8]
def Lm:C:=zR [0,1,5,10] [zm 9 5,zB 10 .eql 9 (zi 0)]
def QC:C:=zR [5] [zm 11 0,zN 12 11,zF 13 80 3 78 12,zm 14 1,zC 15 (zf aT) [13,14]]
def IJ:C:=zR [4] [zm 16 5,zm 4 16]
@[go_sem] def fX:Fc:=⟨2,.seq Kk (.seq J6 (.seq (.seq Lm (.cond (.t 10) QC (.skip))) (.seq IJ (.ret)))),[.t 4]⟩
def Nw:C:=zR [0,7,8] [zm 4 0,zN 5 4,zF 6 80 3 78 5,zL 7 78 6,zm 8 (zi 0)]
def KF:C:=zR [0,7,8,9] [zB 9 .lss 8 (zi 16)]
def Iq:C:=zR [0,2,3,7,8] [zm 10 8,zq 11 (.idx 78 16 7 8),zm 2 10,zm 3 11]
def K3:C:=zD [0,7,8] [zm 12 0,zm 13 2,zN 14 12,zF 15 80 2 78 14,zq 16 (.iad 78 16 18 15 13),zL 17 18 16,zm 18 3,zB 19 .or 17 18,zN 20 12,zF 21 80 2 78 20,zq 22 (.iad 78 16 18 21 13),zS 18 22 19]
def Pj:C:=zR [0,7,8] [zB 23 .add 8 (zi 1),zm 8 23]
def MV:C:=zR [] [zm 24 0,zq 25 (.bld (.agg 78 (List.replicate 16 (.int .u64 0))) []),zN 26 24,zF 27 80 3 78 26,zS 78 27 25]
def ca:C:=.seq KF (.seq (.cond (.t 9) (.skip) (.exit 0)) (.seq (.block 1 (.seq Iq K3)) Pj))
@[go_sem] def fw:Fc:=⟨1,.seq (.seq Nw (.block 0 (.loop [0,7,8] ca))) MV,[]⟩
def Pi:C:=zR [0,1,2,3] [zm 8 (.k (.int .u64 0)),zm 9 (zi 0)]
def Kx:C:=zR [0,1,2,3,15] [zm 12 1,zm 13 2,zC 14 (zf fb) [12,13],zq 15 (.un .not 14)]
def Nt:C:=zR [8,9] [zm 8 (.k (.int .u64 0)),zm 9 (zi 1)]
def IV:C:=zR [0,1,2,3,10] [zm 16 2,zm 10 16]
def OI:C:=zR [0,1,2,3,10,18] [zm 17 10,zB 18 .lss 17 (zi 64)]
def OG:C:=zR [0,1,2,3,10,24] [zm 21 3,zm 22 10,zC 23 (zf bn) [21,22],zB 24 .eql 23 (.k (.int .u64 1))]
def KZ:C:=zR [8,9] [zm 8 (.k (.int .u64 0)),zm 9 (zi 2)]
def NS:C:=zR [0,1,2,3,10] [zm 19 10,zB 20 .add 19 (zi 1),zm 10 20]
def Kp:C:=zR [0,1,2,3,11] [zm 11 (zi 0)]
def Ki:C:=zR [0,1,2,3,11,27] [zm 25 11,zm 26 2,zB 27 .lss 25 26]
def Dh:C:=zR [0,1,2,3,11,38] [zm 30 3,zm 31 11,zC 32 (zf bn) [30,31],zm 33 0,zm 34 1,zm 35 11,zB 36 .add 34 35,zC 37 (zf bn) [33,36],zB 38 .neq 32 37]
def DW:C:=zR [0,1,2,3,11] [zm 39 0,zm 40 1,zm 41 11,zB 42 .add 40 41,zB 43 .shl (.k (.int .u64 1)) 42,zB 44 .xor 39 43,zm 0 44]
def DQ:C:=zR [0,1,2,3,11] [zm 28 11,zB 29 .add 28 (zi 1),zm 11 29]
def Fu:C:=zR [8,9] [zm 45 0,zm 8 45,zm 9 (zi 0)]
def du:C:=.seq (.seq OI (.cond (.t 18) (.skip) (.exit 0))) (.seq (.block 1 (.seq OG (.cond (.t 24) (.seq KZ (.ret)) (.skip)))) NS)
def co:C:=.seq (.seq Ki (.cond (.t 27) (.skip) (.exit 2))) (.seq (.block 3 (.seq Dh (.cond (.t 38) DW (.skip)))) DQ)
@[go_sem] def gp:Fc:=⟨4,.seq Pi (.seq (.seq Kx (.cond (.t 15) (.seq Nt (.ret)) (.skip))) (.seq (.seq IV (.block 0 (.loop [0,1,2,3,10] du))) (.seq (.seq Kp (.block 2 (.loop [0,1,2,3,11] co))) (.seq Fu (.ret))))),[.t 8,.t 9]⟩
def PR:C:=zR [1,2] [zq 1 (.box false 0),zq 2 (.alloc false (.agg 108 (List.replicate 64 (.int .u8 0))))]
def O4:C:=zR [1,2,3] [zq 5 (.bld (.agg 108 (List.replicate 64 (.int .u8 0))) []),zq 3 (.alloc false (.agg 108 (List.replicate 64 (.int .u8 0)))),zS 108 3 5]
def IM:C:=zR [1,2,3,4] [zm 4 (zi 0)]
def IW:C:=zR [1,2,3,4,7] [zm 6 4,zB 7 .lss 6 (zi 64)]
def Ju:C:=zR [1,2,3,4] [zm 10 4,zm 11 4,zB 12 .quo 11 (zi 8),zq 13 (.iad 24 8 18 1 12),zL 14 18 13,zm 15 4,zB 16 .rem 15 (zi 8),zB 17 .mul (zi 8) 16,zB 18 .shr 14 17,zq 19 (.conv .u8 18),zq 20 (.iad 108 64 12 3 10),zS 12 20 19]
def JG:C:=zR [1,2,3,4] [zm 8 4,zB 9 .add 8 (zi 1),zm 4 9]
def Nc:C:=zR [2] [zL 21 108 3,zS 108 2 21]
def da:C:=.seq (.seq IW (.cond (.t 7) (.skip) (.exit 0))) (.seq (.block 1 Ju) JG)
@[go_sem] def ft:Fc:=⟨1,.seq PR (.seq O4 (.seq (.seq IM (.block 0 (.loop [1,2,3,4] da))) (.seq Nc (.ret)))),[.cell 2 108]⟩
def Qw:C:=zR [0] [zm 2 (.k (.int .u32 0))]
def J1:C:=zR [2] [zm 3 0,zC 4 (zf cV) [(.k (.int .u32 4294967295)),3],zq 5 (.un .xor 4),zm 2 5]
@[go_sem] def gV:Fc:=⟨1,.seq Qw (.seq J1 (.ret)),[.t 2]⟩
def Jz:C:=zR [0,1,2] [zm 6 (.k (.bool false))]
def Ll:C:=zR [6] [zm 7 0,zm 8 1,zB 9 .geq 7 8,zm 10 9,zg 11 10 true (.mv 0),zg 12 10 true (.mv 2),zg 13 10 true (.bin .leq 11 12),zP 14 10 13 (.k (.bool false)),zm 6 14]
@[go_sem] def kj:Fc:=⟨3,.seq Jz (.seq Ll (.ret)),[.t 6]⟩
def QW:C:=zR [1,2] [zq 1 (.box false 0),zq 2 (.alloc false (.agg 108 (List.replicate 64 (.int .u8 0))))]
def Ot:C:=zR [1,2,3] [zq 3 (.alloc false (.agg 108 (List.replicate 64 (.int .u8 0))))]
def Mo:C:=zR [2,3,7,8] [zL 7 24 1,zm 8 (zi 0)]
def QA:C:=zR [2,3,7,8,9] [zB 9 .lss 8 (zi 8)]
def Ii:C:=zR [2,3,4,5,7,8] [zm 10 8,zq 11 (.idx 24 8 7 8),zm 4 10,zm 5 11]
def Qi:C:=zR [2,3,4,5,7,8,12] [zm 12 (zi 0)]
def OC:C:=zR [2,3,4,5,7,8,12,13] [zB 13 .lss 12 (zi 8)]
def Oy:C:=zR [2,3,4,5,6,7,8,12] [zm 14 12,zm 6 14]
def PI:C:=zR [2,3,4,5,7,8,12] [zm 15 4,zB 16 .mul (zi 8) 15,zm 17 6,zB 18 .add 16 17,zm 19 5,zm 20 6,zB 21 .mul (zi 8) 20,zB 22 .shr 19 21,zq 23 (.conv .u8 22),zq 24 (.iad 108 64 12 3 18),zS 12 24 23]
def KI:C:=zR [2,3,4,5,7,8,12] [zB 25 .add 12 (zi 1),zm 12 25]
def Eo:C:=zR [2,3,7,8] [zB 26 .add 8 (zi 1),zm 8 26]
def Ev:C:=zR [2] [zL 27 108 3,zS 108 2 27]
def jk:C:=.seq OC (.seq (.cond (.t 13) (.skip) (.exit 2)) (.seq (.block 3 (.seq Oy PI)) KI))
def jn:C:=.seq QA (.seq (.cond (.t 9) (.skip) (.exit 0)) (.seq (.block 1 (.seq Ii (.seq Qi (.block 2 (.loop [2,3,4,5,7,8,12] jk))))) Eo))
@[go_sem] def lc:Fc:=⟨1,.seq QW (.seq Ot (.seq (.seq Mo (.block 0 (.loop [2,3,7,8] jn))) (.seq Ev (.ret)))),[.cell 2 108]⟩
def Ku:C:=zR [0] [zm 2 (.k (.int .u32 0))]
def IU:C:=zR [2] [zm 3 0,zC 4 (zf lO) [(.k (.int .u32 0)),3],zm 2 4]
@[go_sem] def oq:Fc:=⟨1,.seq Ku (.seq IU (.ret)),[.t 2]⟩
def OZ:C:=zR [0] [zm 2 (.k .nils)]
def Ld:C:=zR [0,4] [zm 3 0,zq 4 (.eq false 3 3 (.k .nils))]
def Lh:C:=zR [2] [zm 2 (.k .nils)]
def JN:C:=zR [2] [zq 5 (.bsl true 86 84 (.agg 84 [(.int .i64 0),(.int .u64 0)]) 0 []),zm 6 0,zq 7 (.app true 86 84 5 6),zm 2 7]
@[go_sem] def eg:Fc:=⟨1,.seq OZ (.seq (.seq Ld (.cond (.t 4) (.seq Lh (.ret)) (.skip))) (.seq JN (.ret))),[.t 2]⟩
def Q5:C:=zR [0,1,2] [zm 6 (.k (.bool false))]
def KJ:C:=zR [6] [zm 7 0,zm 8 1,zB 9 .geq 7 8,zm 10 9,zg 11 10 true (.mv 0),zg 12 10 true (.mv 2),zg 13 10 true (.bin .leq 11 12),zP 14 10 13 (.k (.bool false)),zm 6 14]
@[go_sem] def jY:Fc:=⟨3,.seq Q5 (.seq KJ (.ret)),[.t 6]⟩
def La:C:=zR [0,1] [zm 4 (.k (.bool false))]
def IZ:C:=zR [4] [zm 5 0,zm 6 1,zB 7 .quo 6 (zi 64),zN 8 5,zq 9 (.iad 78 16 18 8 7),zL 10 18 9,zm 11 1,zB 12 .rem 11 (zi 64),zB 13 .shr 10 12,zB 14 .and 13 (.k (.int .u64 1)),zB 15 .eql 14 (.k (.int .u64 1)),zm 4 15]
@[go_sem] def jr:Fc:=⟨2,.seq La (.seq IZ (.ret)),[.t 4]⟩
def IC:C:=zR [0,1] [zm 4 (.k (.bool false))]
def Lf:C:=zR [4] [zm 5 0,zB 6 .geq 5 (zi 0),zm 7 6,zg 8 7 true (.mv 0),zg 9 7 true (.bin .leq 8 (zi 63)),zP 10 7 9 (.k (.bool false)),zm 11 10,zg 12 11 true (.mv 1),zg 13 11 true (.bin .geq 12 (zi 1)),zP 14 11 13 (.k (.bool false)),zm 15 14,zg 16 15 true (.mv 1),zg 17 15 true (.bin .leq 16 (zi 64)),zP 18 15 17 (.k (.bool false)),zm 19 18,zg 20 19 true (.mv 0),zg 21 19 true (.mv 1),zg 22 19 true (.bin .add 20 21),zg 23 19 true (.bin .leq 22 (zi 64)),zP 24 19 23 (.k (.bool false)),zm 4 24]
@[go_sem] def iv:Fc:=⟨2,.seq IC (.seq Lf (.ret)),[.t 4]⟩
def KV:C:=zR [0,1] [zm 4 (.k (.int .u64 0))]
def LA:C:=zR [4] [zm 5 0,zm 6 1,zB 7 .shr 5 6,zB 8 .and 7 (.k (.int .u64 1)),zm 4 8]
@[go_sem] def gT:Fc:=⟨2,.seq KV (.seq LA (.ret)),[.t 4]⟩
def PT:C:=zR [0,1] [zm 4 (.k (.int .u32 0))]
def Kq:C:=zR [0,1,5] [zm 5 (zi 0)]
def Pm:C:=zR [0,1,5,11] [zm 8 5,zm 9 1,zq 10 (.len false 9),zB 11 .lss 8 10]
def Nk:C:=zR [0,1,5] [zm 14 0,zm 15 1,zm 16 5,zq 17 (.sad 12 15 16),zL 18 12 17,zq 19 (.conv .u32 18),zB 20 .xor 14 19,zm 0 20]
def K8:C:=zR [0,1,5,6] [zm 6 (zi 0)]
def LB:C:=zR [0,1,5,6,22] [zm 21 6,zB 22 .lss 21 (zi 8)]
def JE:C:=zR [0,1,5,6,7] [zm 25 0,zB 26 .and 25 (.k (.int .u32 1)),zm 7 26]
def Oz:C:=zR [0,1,5,6,7] [zm 27 0,zB 28 .shr 27 (.k (.int .u64 1)),zm 0 28]
def Qn:C:=zR [0,1,5,6,30] [zm 29 7,zB 30 .eql 29 (.k (.int .u32 1))]
def MH:C:=zR [0,1,5,6] [zm 31 0,zB 32 .xor 31 (.k (.int .u32 3988292384)),zm 0 32]
def Cv:C:=zR [0,1,5,6] [zm 23 6,zB 24 .add 23 (zi 1),zm 6 24]
def BY:C:=zR [0,1,5] [zm 12 5,zB 13 .add 12 (zi 1),zm 5 13]
def Em:C:=zR [4] [zm 33 0,zm 4 33]
def bG:C:=.seq (.seq LB (.cond (.t 22) (.skip) (.exit 2))) (.seq (.block 3 (.seq JE (.seq Oz (.seq Qn (.cond (.t 30) MH (.skip)))))) Cv)
def cA:C:=.seq (.seq Pm (.cond (.t 11) (.skip) (.exit 0))) (.seq (.block 1 (.seq Nk (.seq K8 (.block 2 (.loop [0,1,5,6] bG))))) BY)
@[go_sem] def d9:Fc:=⟨2,.seq PT (.seq (.seq Kq (.block 0 (.loop [0,1,5] cA))) (.seq Em (.ret))),[.t 4]⟩
def O9:C:=zR [0,1] [zm 4 (.k (.int .u32 0))]
def Mx:C:=zR [1,5] [zm 8 0,zq 9 (.un .xor 8),zm 5 9]
def Lb:C:=zR [5,10,11,12] [zm 10 1,zq 11 (.len false 10),zm 12 (zi 0)]
def M0:C:=zR [5,10,11,12,13] [zB 13 .lss 12 11]
def Pr:C:=zR [5,7,10,11,12] [zq 14 (.sad 12 10 12),zL 15 12 14,zm 7 15]
def Ml:C:=zR [5,10,11,12] [zm 16 5,zm 17 7,zq 18 (.conv .u32 17),zB 19 .xor 16 18,zm 5 19]
def O6:C:=zR [5,10,11,12,20] [zm 20 (zi 0)]
def MO:C:=zR [5,10,11,12,20,21] [zB 21 .lss 20 (zi 8)]
def KQ:C:=zR [5,10,11,12,20] [zm 22 5,zB 23 .shr 22 (.k (.int .u64 1)),zm 24 5,zB 25 .and 24 (.k (.int .u32 1)),zq 26 (.un .neg 25),zB 27 .and (.k (.int .u32 3988292384)) 26,zB 28 .xor 23 27,zm 5 28]
def Oo:C:=zR [5,10,11,12,20] [zB 29 .add 20 (zi 1),zm 20 29]
def Ds:C:=zR [5,10,11,12] [zB 30 .add 12 (zi 1),zm 12 30]
def Fx:C:=zR [4] [zm 31 5,zq 32 (.un .xor 31),zm 4 32]
def ke:C:=.seq MO (.seq (.cond (.t 21) (.skip) (.exit 2)) (.seq (.block 3 KQ) Oo))
def kg:C:=.seq M0 (.seq (.cond (.t 13) (.skip) (.exit 0)) (.seq (.block 1 (.seq Pr (.seq Ml (.seq O6 (.block 2 (.loop [5,10,11,12,20] ke)))))) Ds))
@[go_sem] def m9:Fc:=⟨2,.seq O9 (.seq Mx (.seq (.seq Lb (.block 0 (.loop [5,10,11,12] kg))) (.seq Fx (.ret)))),[.t 4]⟩
def D : Nat → Option Fc
  | 3 => some dF
  | 5 => some fu
  | 6 => some fY
  | 7 => some eR
  | 8 => some gW
  | 9 => some gt
  | 10 => some gZ
  | 11 => some gL
  | 12 => some gg
  | 13 => some jg
  | 14 => some jx
  | 15 => some jt
  | 16 => some ff
  | 18 => some i4
  | 19 => some pT
  | 20 => some fe
  | 21 => some lw
  | 22 => some fA
  | 23 => some jP
  | 24 => some nv
  | 25 => some fv
  | 26 => some ii
  | 27 => some gX
  | 28 => some iw
  | 29 => some gY
  | 30 => some gm
  | 31 => some hJ
  | 32 => some ja
  | 33 => some jZ
  | 34 => some ju
  | 35 => some jw
  | 36 => some i9
  | 37 => some iI
  | 38 => some fZ
  | 39 => some iH
  | 40 => some iQ
  | 41 => some oD
  | 42 => some gn
  | 43 => some gj
  | 44 => some lm
  | 45 => some iD
  | 46 => some gM
  | 47 => some gh
  | 48 => some iu
  | 49 => some iK
  | 50 => some ig
  | 51 => some gR
  | 52 => some gQ
  | 53 => some mi
  | 54 => some eP
  | 55 => some dD
  | 56 => some iT
  | 57 => some iE
  | 58 => some kZ
  | 59 => some i7
  | 60 => some li
  | 61 => some iM
  | 62 => some kD
  | 63 => some fq
  | 64 => some fj
  | 65 => some jI
  | 66 => some gk
  | 67 => some fW
  | 68 => some iG
  | 69 => some ik
  | 70 => some iZ
  | 71 => some lA
  | 72 => some lb
  | 73 => some nc
  | 74 => some it
  | 75 => some lj
  | 76 => some ga
  | 77 => some fX
  | 78 => some fw
  | 79 => some gp
  | 80 => some ft
  | 81 => some gV
  | 82 => some kj
  | 83 => some lc
  | 84 => some oq
  | 85 => some eg
  | 86 => some jY
  | 87 => some jr
  | 88 => some iv
  | 89 => some gT
  | 90 => some d9
  | 91 => some m9
  | _ => none
theorem hZ:D ib = some dF:=rfl
theorem mW:D dK = some fu:=rfl
theorem n8:D bg = some fY:=rfl
theorem fg:D dv = some eR:=rfl
theorem ou:D ef = some gW:=rfl
theorem nG:D aD = some gt:=rfl
theorem oN:D cg = some gZ:=rfl
theorem pe:D bo = some gL:=rfl
theorem nV:D bi = some gg:=rfl
theorem gu:D bm = some jg:=rfl
theorem r7:D bq = some jx:=rfl
theorem ir:D aX = some jt:=rfl
theorem mU:D bN = some ff:=rfl
theorem qX:D gA = some i4:=rfl
theorem HB:D mu = some pT:=rfl
theorem nE:D dJ = some fe:=rfl
theorem j7:D dk = some lw:=rfl
theorem nq:D bL = some fA:=rfl
theorem BB:D lF = some nv:=rfl
theorem m6:D dL = some fv:=rfl
theorem bQ:D fa = some ii:=rfl
theorem ie:D ep = some gX:=rfl
theorem iL:D eY = some iw:=rfl
theorem oX:D bI = some gY:=rfl
theorem jO:D bf = some gm:=rfl
theorem j9:D ei = some hJ:=rfl
theorem qU:D bP = some ja:=rfl
theorem uq:D jh = some jZ:=rfl
theorem rD:D dG = some ju:=rfl
theorem sp:D dE = some jw:=rfl
theorem qZ:D dm = some i9:=rfl
theorem kV:D cS = some iI:=rfl
theorem jM:D dV = some fZ:=rfl
theorem pD:D cd = some iH:=rfl
theorem lB:D gD = some iQ:=rfl
theorem DD:D mR = some oD:=rfl
theorem jR:D dT = some gn:=rfl
theorem jN:D dX = some gj:=rfl
theorem pE:D gG = some lm:=rfl
theorem qb:D bC = some iD:=rfl
theorem jV:D bJ = some gM:=rfl
theorem nP:D bl = some gh:=rfl
theorem px:D bR = some iu:=rfl
theorem fI:D aV = some iK:=rfl
theorem kw:D cC = some ig:=rfl
theorem ip:D dg = some gR:=rfl
theorem kl:D ck = some gQ:=rfl
theorem yD:D kS = some mi:=rfl
theorem my:D dt = some eP:=rfl
theorem kT:D cB = some dD:=rfl
theorem lC:D aT = some iT:=rfl
theorem fN:D cQ = some iE:=rfl
theorem qk:D iS = some kZ:=rfl
theorem gC:D dn = some i7:=rfl
theorem qg:D iU = some li:=rfl
theorem jd:D cT = some iM:=rfl
theorem fB:D jG = some kD:=rfl
theorem jD:D dM = some fq:=rfl
theorem mS:D bM = some fj:=rfl
theorem tE:D cv = some jI:=rfl
theorem bj:D dZ = some gk:=rfl
theorem nY:D bX = some fW:=rfl
theorem qf:D bE = some iG:=rfl
theorem ku:D be = some ik:=rfl
theorem q7:D a8 = some iZ:=rfl
theorem wu:D km = some lA:=rfl
theorem xy:D j0 = some lb:=rfl
theorem AG:D fQ = some nc:=rfl
theorem pw:D eX = some it:=rfl
theorem xV:D kf = some lj:=rfl
theorem gH:D bA = some ga:=rfl
theorem jQ:D bV = some fX:=rfl
theorem m5:D cG = some fw:=rfl
theorem n5:D aR = some gp:=rfl
theorem nF:D dN = some ft:=rfl
theorem ot:D eu = some gV:=rfl
theorem uy:D cU = some kj:=rfl
theorem wU:D ko = some lc:=rfl
theorem Fk:D mQ = some oq:=rfl
theorem eQ:D dj = some eg:=rfl
theorem tW:D bO = some jY:=rfl
theorem mg:D cP = some jr:=rfl
theorem pz:D fb = some iv:=rfl
theorem pj:D bn = some gT:=rfl
theorem lS:D cV = some d9:=rfl
theorem Aw:D lO = some m9:=rfl
@[go_sem] theorem ag4:rc D b UB ρ s=(fun v0 v1=>(some (.normal,[(0,v0),(1,v1)],s):OR)) (get ρ 0) (get ρ 1):=zr
@[go_sem] theorem ahk:rc D b TH ρ s=(fun v0 v1=>(aa (rf D dK [] s) fun x0=>some (.normal,[(0,v0),(1,v1),(5,x0.1)],x0.2):OR)) (get ρ 0) (get ρ 1):=zr
@[go_sem] theorem ag9:rc D b Tn ρ s=(fun v0 v1 v5=>(aa (rf D bg [(.int .i64 100),(.int .i64 12)] s) fun x0=>aa (aF 0 x0.1) fun _x1=>aa (aF 1 x0.1) fun x2=>aa (aF 2 x0.1) fun x3=>some (.normal,[(0,v0),(1,v1),(5,v5),(7,x2),(8,x3)],x0.2):OR)) (get ρ 0) (get ρ 1) (get ρ 5):=zr
@[go_sem] theorem ag1:rc D b Ue ρ s=(fun v0 v1 v5 v7 v8=>(aa (vun .not v5) fun x0=>an x0 false (aa (eqv false 1 v8 .nilp) fun x1=>some (.normal,[(0,v0),(1,v1),(7,v7),(8,v8),(30,x1)],s)) (some (.normal,[(0,v0),(1,v1),(7,v7),(8,v8),(30,(.bool true))],s)) (none):OR)) (get ρ 0) (get ρ 1) (get ρ 5) (get ρ 7) (get ρ 8):=zr
@[go_sem] theorem ag2:rc D b TT ρ s= some (.normal,[(4,(.bool false))],s):=zr
@[go_sem] theorem agW:rc D b UU ρ s=(fun v0 v1 v7 v8=>(some (.normal,[(0,v0),(1,v1),(7,v7),(8,v8),(9,(.int .i64 0))],s):OR)) (get ρ 0) (get ρ 1) (get ρ 7) (get ρ 8):=zr
@[go_sem] theorem agN:rc D b Tt ρ s=(fun v0 v1 v7 v8 v9=>(aa (V.slen false v0) fun x0=>aa (ab .lss v9 (.int .i64 x0)) fun x1=>an x1 true (aa (ab .lss v9 (.int .i64 20)) fun x2=>some (.normal,[(0,v0),(1,v1),(7,v7),(8,v8),(9,v9),(38,x2)],s)) (some (.normal,[(0,v0),(1,v1),(7,v7),(8,v8),(9,v9),(38,(.bool false))],s)) (none):OR)) (get ρ 0) (get ρ 1) (get ρ 7) (get ρ 8) (get ρ 9):=zr
@[go_sem] theorem agL:rc D b UO ρ s=(fun v0 v1 v7 v8 v9=>(aa (d6 54 v0 v9) fun x0=>aa (ldv s 54 x0) fun x1=>aa (rf D dv [v7,x1] s) fun x2=>some (.normal,[(0,v0),(1,v1),(7,v7),(8,v8),(9,v9)],x2.2):OR)) (get ρ 0) (get ρ 1) (get ρ 7) (get ρ 8) (get ρ 9):=zr
@[go_sem] theorem ahf:rc D b TR ρ s=(fun v0 v1 v7 v8 v9=>(aa (ab .add v9 (.int .i64 1)) fun x0=>some (.normal,[(0,v0),(1,v1),(7,v7),(8,v8),(9,x0)],s):OR)) (get ρ 0) (get ρ 1) (get ρ 7) (get ρ 8) (get ρ 9):=zr
@[go_sem] theorem ahl:rc D b US ρ s=(fun v1 v7 v8=>(aa (rf D ef [v7] s) fun x0=>aa (rf D aD [v1,(.int .i64 8)] x0.2) fun x1=>aa (ab .gtr x0.1 x1.1) fun x2=>some (.normal,[(1,v1),(7,v7),(8,v8),(51,x2)],x1.2):OR)) (get ρ 1) (get ρ 7) (get ρ 8):=zr
@[go_sem] theorem aaR:rc D b Qp ρ s=(fun v1 v7 v8=>(aa (rf D cg [v7] s) fun x0=>some (.normal,[(1,v1),(7,v7),(8,v8)],x0.2):OR)) (get ρ 1) (get ρ 7) (get ρ 8):=zr
@[go_sem] theorem ZU:rc D b Og ρ s=(fun v7 v8=>(aa (rf D bo [v7] s) fun x0=>aa (aF 0 x0.1) fun x1=>aa (aF 1 x0.1) fun x2=>let x3:V:=.ptr (St.fresh x0.2 false) [] 48; let s3:St:=St.new x0.2 false (.agg 48 (List.replicate 49 (.agg 42 [(.int .i64 0),(.int .i64 0),(.int .i64 0)]))); let x4:V:=.ptr (St.fresh s3 false) [] 50; let s4:St:=St.new s3 false (.agg 50 (List.replicate 8 (.int .i64 0))); aa (stv b s4 48 x1 x3) fun s5=>aa (stv b s5 50 x2 x4) fun s6=>some (.normal,[(7,v7),(8,v8),(10,x3),(11,x4)],s6):OR)) (get ρ 7) (get ρ 8):=zr
@[go_sem] theorem afA:rc D b J9 ρ s=(fun v7 v8 v10 v11=>(aa (rf D bi [v7] s) fun x0=>let x1:V:=.ptr (St.fresh x0.2 false) [] 48; let s1:St:=St.new x0.2 false (.agg 48 (List.replicate 49 (.agg 42 [(.int .i64 0),(.int .i64 0),(.int .i64 0)]))); aa (stv b s1 48 x0.1 x1) fun s2=>some (.normal,[(7,v7),(8,v8),(10,v10),(11,v11),(12,x1)],s2):OR)) (get ρ 7) (get ρ 8) (get ρ 10) (get ρ 11):=zr
@[go_sem] theorem afT:rc D b JF ρ s=(fun v7 v8 v10 v11 v12=>(aa (rf D bm [v8,(.int .i64 1)] s) fun x0=>aa (ab .neq x0.1 (.int .i64 0)) fun x1=>some (.normal,[(7,v7),(8,v8),(10,v10),(11,v11),(12,v12),(63,x1)],x0.2):OR)) (get ρ 7) (get ρ 8) (get ρ 10) (get ρ 11) (get ρ 12):=zr
@[go_sem] theorem aad:rc D b Lx ρ s= some (.normal,[(4,(.bool false))],s):=zr
@[go_sem] theorem acB:rc D b NB ρ s=(fun v7 v8 v10 v11 v12=>(some (.normal,[(7,v7),(8,v8),(10,v10),(11,v11),(12,v12),(13,(.int .i64 0))],s):OR)) (get ρ 7) (get ρ 8) (get ρ 10) (get ρ 11) (get ρ 12):=zr
@[go_sem] theorem aci:rc D b Ks ρ s=(fun v7 v8 v10 v11 v12 v13=>(some (.normal,[(7,v7),(8,v8),(10,v10),(11,v11),(12,v12),(13,v13),(14,(.int .i64 0))],s):OR)) (get ρ 7) (get ρ 8) (get ρ 10) (get ρ 11) (get ρ 12) (get ρ 13):=zr
@[go_sem] theorem Yp:rc D b JH ρ s=(fun v7 v8 v10 v11 v12 v13 v14=>(aa (ab .lss v14 (.int .i64 60)) fun x0=>an x0 true (aa (rf D bq [v8] s) fun x1=>aa (ab .gtr x1.1 (.int .i64 0)) fun x2=>an x2 true (aa (ab .eql v13 (.int .i64 0)) fun x3=>some (.normal,[(7,v7),(8,v8),(10,v10),(11,v11),(12,v12),(13,v13),(14,v14),(74,x3)],x1.2)) (some (.normal,[(7,v7),(8,v8),(10,v10),(11,v11),(12,v12),(13,v13),(14,v14),(74,(.bool false))],x1.2)) (none)) (some (.normal,[(7,v7),(8,v8),(10,v10),(11,v11),(12,v12),(13,v13),(14,v14),(74,(.bool false))],s)) (none):OR)) (get ρ 7) (get ρ 8) (get ρ 10) (get ρ 11) (get ρ 12) (get ρ 13) (get ρ 14):=zr
@[go_sem] theorem XY:rc D b Rb ρ s=(fun v7 v8 v10 v11 v12 v14=>(aa (rf D aX [v8] s) fun x0=>aa (aF 0 x0.1) fun _x1=>aa (aF 1 x0.1) fun x2=>some (.normal,[(7,v7),(8,v8),(10,v10),(11,v11),(12,v12),(13,x2),(14,v14)],x0.2):OR)) (get ρ 7) (get ρ 8) (get ρ 10) (get ρ 11) (get ρ 12) (get ρ 14):=zr
@[go_sem] theorem Zf:rc D b Pe ρ s=(fun v7 v8 v10 v11 v12 v13 v14=>(aa (ab .add v14 (.int .i64 1)) fun x0=>some (.normal,[(7,v7),(8,v8),(10,v10),(11,v11),(12,v12),(13,v13),(14,x0)],s):OR)) (get ρ 7) (get ρ 8) (get ρ 10) (get ρ 11) (get ρ 12) (get ρ 13) (get ρ 14):=zr
@[go_sem] theorem afD:rc D b OL ρ s=(fun v7 v8 v10 v11 v12 v13=>(aa (rf D bo [v7] s) fun x0=>aa (aF 0 x0.1) fun x1=>aa (aF 1 x0.1) fun x2=>let x3:V:=.ptr (St.fresh x0.2 false) [] 48; let s3:St:=St.new x0.2 false (.agg 48 (List.replicate 49 (.agg 42 [(.int .i64 0),(.int .i64 0),(.int .i64 0)]))); let x4:V:=.ptr (St.fresh s3 false) [] 50; let s4:St:=St.new s3 false (.agg 50 (List.replicate 8 (.int .i64 0))); aa (stv b s4 48 x1 x3) fun s5=>aa (stv b s5 50 x2 x4) fun s6=>some (.normal,[(7,v7),(8,v8),(10,v10),(11,v11),(12,v12),(13,v13),(15,x3),(16,x4)],s6):OR)) (get ρ 7) (get ρ 8) (get ρ 10) (get ρ 11) (get ρ 12) (get ρ 13):=zr
@[go_sem] theorem aaS:rc D b Ng ρ s=(fun v7 v8 v10 v11 v12 v13 v15 v16=>(aa (ab .eql v13 (.int .i64 0)) fun x0=>some (.normal,[(7,v7),(8,v8),(10,v10),(11,v11),(12,v12),(13,v13),(15,v15),(16,v16),(88,x0)],s):OR)) (get ρ 7) (get ρ 8) (get ρ 10) (get ρ 11) (get ρ 12) (get ρ 13) (get ρ 15) (get ρ 16):=zr
@[go_sem] theorem aga:rc D b Np ρ s=(fun v7 v12 v15=>(aa (ldv s 48 v15) fun x0=>aa (ldv s 48 v12) fun x1=>aa (eqv false 48 x0 x1) fun x2=>an x2 true (aa (ix D (bc b [v7]) b bi [v7] s) fun x3=>aa (ldv s 48 v12) fun x4=>aa (eqv false 48 x3 x4) fun x5=>some (.normal,[(4,x5)],s)) (some (.normal,[(4,(.bool false))],s)) (none):OR)) (get ρ 7) (get ρ 12) (get ρ 15):=zd
@[go_sem] theorem adw:rc D b MK ρ s=(fun v7 v8 v10 v11 v12 v13 v15 v16=>(aa (rf D bN [v7] s) fun x0=>aa (aF 0 x0.1) fun x1=>aa (aF 1 x0.1) fun x2=>let x3:V:=.ptr (St.fresh x0.2 false) [] 48; let s3:St:=St.new x0.2 false (.agg 48 (List.replicate 49 (.agg 42 [(.int .i64 0),(.int .i64 0),(.int .i64 0)]))); aa (stv b s3 48 x1 x3) fun s4=>some (.normal,[(7,v7),(8,v8),(10,v10),(11,v11),(12,v12),(13,v13),(15,v15),(16,v16),(18,x2)],s4):OR)) (get ρ 7) (get ρ 8) (get ρ 10) (get ρ 11) (get ρ 12) (get ρ 13) (get ρ 15) (get ρ 16):=zr
@[go_sem] theorem acU:rc D b LX ρ s=(fun v7 v8 v10 v11 v12 v13 v15 v16 v18=>(aa (ab .eql v13 (.int .i64 10)) fun x0=>an x0 true (aa (ldv s 48 v15) fun x1=>aa (ldv s 48 v10) fun x2=>aa (eqv false 48 x1 x2) fun x3=>an x3 true (aa (ldv s 50 v16) fun x4=>aa (ldv s 50 v11) fun x5=>aa (eqv false 50 x4 x5) fun x6=>an x6 true (aa (ix D (bc b [v7]) b bi [v7] s) fun x7=>aa (ldv s 48 v12) fun x8=>aa (eqv false 48 x7 x8) fun x9=>an x9 true (aa (ix D (bc b [v8]) b bq [v8] s) fun x10=>aa (ab .eql x10 (.int .i64 0)) fun x11=>an x11 true (aa (vun .not v18) fun x12=>an x12 true (aa (rf D bm [v8,(.int .i64 2)] s) fun x13=>aa (ab .eql x13.1 (.int .i64 0)) fun x14=>some (.normal,[(4,x14)],x13.2)) (some (.normal,[(4,(.bool false))],s)) (none)) (some (.normal,[(4,(.bool false))],s)) (none)) (some (.normal,[(4,(.bool false))],s)) (none)) (some (.normal,[(4,(.bool false))],s)) (none)) (some (.normal,[(4,(.bool false))],s)) (none)) (some (.normal,[(4,(.bool false))],s)) (none):OR)) (get ρ 7) (get ρ 8) (get ρ 10) (get ρ 11) (get ρ 12) (get ρ 13) (get ρ 15) (get ρ 16) (get ρ 18):=zd
@[go_sem] theorem agZ:rc D b Tm ρ s= some (.normal,[],s):=zr
@[go_sem] theorem ag5:rc D b UM ρ s= aa (rf D bg [(.int .i64 80),(.int .i64 3)] s) fun x0=>aa (aF 0 x0.1) fun _x1=>aa (aF 1 x0.1) fun _x2=>aa (aF 2 x0.1) fun x3=>some (.normal,[(3,x3)],x0.2):=zr
@[go_sem] theorem ahn:rc D b Uu ρ s=(fun v3=>(aa (eqv false 1 v3 .nilp) fun x0=>some (.normal,[(3,v3),(23,x0)],s):OR)) (get ρ 3):=zr
@[go_sem] theorem ahc:rc D b Uz ρ s= some (.normal,[(0,(.bool false))],s):=zr
@[go_sem] theorem ag8:rc D b Uw ρ s=(fun v3=>(aa (rf D aX [v3] s) fun x0=>aa (aF 0 x0.1) fun _x1=>aa (aF 1 x0.1) fun x2=>some (.normal,[(3,v3),(5,x2)],x0.2):OR)) (get ρ 3):=zr
@[go_sem] theorem ahd:rc D b TP ρ s=(fun v3 v5=>(aa (rf D bm [v3,(.int .i64 (-1))] s) fun x0=>some (.normal,[(3,v3),(5,v5),(6,x0.1)],x0.2):OR)) (get ρ 3) (get ρ 5):=zr
@[go_sem] theorem ahm:rc D b T5 ρ s=(fun v3 v5 v6=>(aa (rf D bm [v3,(.int .i64 0)] s) fun x0=>some (.normal,[(3,v3),(5,v5),(6,v6),(7,x0.1)],x0.2):OR)) (get ρ 3) (get ρ 5) (get ρ 6):=zr
@[go_sem] theorem ag7:rc D b Uq ρ s=(fun v3 v5 v6 v7=>(aa (rf D bq [v3] s) fun x0=>some (.normal,[(3,v3),(5,v5),(6,v6),(7,v7),(8,x0.1)],x0.2):OR)) (get ρ 3) (get ρ 5) (get ρ 6) (get ρ 7):=zr
@[go_sem] theorem ahj:rc D b TL ρ s=(fun v3 v5 v6 v7 v8=>(aa (rf D aX [v3] s) fun x0=>aa (aF 0 x0.1) fun x1=>aa (aF 1 x0.1) fun x2=>some (.normal,[(3,v3),(5,v5),(6,v6),(7,v7),(8,v8),(9,x1),(10,x2)],x0.2):OR)) (get ρ 3) (get ρ 5) (get ρ 6) (get ρ 7) (get ρ 8):=zr
@[go_sem] theorem ahe:rc D b TG ρ s=(fun v3 v5 v6 v7 v8 v9 v10=>(aa (rf D aX [v3] s) fun x0=>aa (aF 0 x0.1) fun x1=>aa (aF 1 x0.1) fun x2=>some (.normal,[(3,v3),(5,v5),(6,v6),(7,v7),(8,v8),(9,v9),(10,v10),(11,x1),(12,x2)],x0.2):OR)) (get ρ 3) (get ρ 5) (get ρ 6) (get ρ 7) (get ρ 8) (get ρ 9) (get ρ 10):=zr
@[go_sem] theorem afq:rc D b OE ρ s=(fun v3 v5 v6 v7 v8 v9 v10 v11 v12=>(aa (rf D aX [v3] s) fun x0=>aa (aF 0 x0.1) fun x1=>aa (aF 1 x0.1) fun x2=>some (.normal,[(3,v3),(5,v5),(6,v6),(7,v7),(8,v8),(9,v9),(10,v10),(11,v11),(12,v12),(13,x1),(14,x2)],x0.2):OR)) (get ρ 3) (get ρ 5) (get ρ 6) (get ρ 7) (get ρ 8) (get ρ 9) (get ρ 10) (get ρ 11) (get ρ 12):=zr
@[go_sem] theorem YI:rc D b Kf ρ s=(fun v3 v5 v6 v7 v8 v9 v10 v11 v12 v13 v14=>(aa (rf D gA [v3] s) fun x0=>aa (aF 0 x0.1) fun x1=>aa (aF 1 x0.1) fun x2=>let x3:V:=.ptr (St.fresh x0.2 false) [] 44; let s3:St:=St.new x0.2 false (.agg 44 [(.int .i64 0),(.int .i64 0),(.int .i64 0),(.int .i64 0)]); aa (stv b s3 44 x1 x3) fun s4=>some (.normal,[(3,v3),(5,v5),(6,v6),(7,v7),(8,v8),(9,v9),(10,v10),(11,v11),(12,v12),(13,v13),(14,v14),(15,x3),(16,x2)],s4):OR)) (get ρ 3) (get ρ 5) (get ρ 6) (get ρ 7) (get ρ 8) (get ρ 9) (get ρ 10) (get ρ 11) (get ρ 12) (get ρ 13) (get ρ 14):=zr
@[go_sem] theorem ZI:rc D b Lg ρ s=(fun v3 v5 v6 v7 v8 v9 v10 v11 v12 v13 v14 v15 v16=>(aa (ab .eql v5 (.int .i64 3)) fun x0=>an x0 true (aa (ab .eql v6 (.int .i64 1)) fun x1=>an x1 true (aa (ab .eql v7 (.int .i64 0)) fun x2=>an x2 true (aa (ab .eql v8 (.int .i64 3)) fun x3=>an x3 true (aa (vun .not v9) fun x4=>an x4 true (aa (ab .eql v10 (.int .i64 0)) fun x5=>an x5 true (aa (vun .not v11) fun x6=>an x6 true (aa (ab .eql v12 (.int .i64 0)) fun x7=>an x7 true (an v13 true (aa (ab .eql v14 (.int .i64 0)) fun x8=>an x8 true (aa (ae 44 0 10 v15) fun x9=>aa (ldv s 10 x9) fun x10=>aa (ab .eql x10 (.int .i64 2)) fun x11=>an x11 true (aa (ab .eql v16 (.int .i64 1)) fun x12=>an x12 true (aa (rf D bq [v3] s) fun x13=>aa (ab .eql x13.1 (.int .i64 0)) fun x14=>some (.normal,[(0,x14)],x13.2)) (some (.normal,[(0,(.bool false))],s)) (none)) (some (.normal,[(0,(.bool false))],s)) (none)) (some (.normal,[(0,(.bool false))],s)) (none)) (some (.normal,[(0,(.bool false))],s)) (none)) (some (.normal,[(0,(.bool false))],s)) (none)) (some (.normal,[(0,(.bool false))],s)) (none)) (some (.normal,[(0,(.bool false))],s)) (none)) (some (.normal,[(0,(.bool false))],s)) (none)) (some (.normal,[(0,(.bool false))],s)) (none)) (some (.normal,[(0,(.bool false))],s)) (none)) (some (.normal,[(0,(.bool false))],s)) (none)) (some (.normal,[(0,(.bool false))],s)) (none):OR)) (get ρ 3) (get ρ 5) (get ρ 6) (get ρ 7) (get ρ 8) (get ρ 9) (get ρ 10) (get ρ 11) (get ρ 12) (get ρ 13) (get ρ 14) (get ρ 15) (get ρ 16):=zr
@[go_sem] theorem agX:rc D b TN ρ s=(fun v0 v1=>(some (.normal,[(0,v0),(1,v1)],s):OR)) (get ρ 0) (get ρ 1):=zr
@[go_sem] theorem agU:rc D b UG ρ s=(fun v0 v1=>(aa (rf D dJ [v0,v1] s) fun x0=>aa (rf D mu [x0.1] x0.2) fun x1=>aa (aF 0 x1.1) fun x2=>aa (aF 1 x1.1) fun _x3=>some (.normal,[(1,v1),(7,x2)],x1.2):OR)) (get ρ 0) (get ρ 1):=zr
@[go_sem] theorem ag0:rc D b TY ρ s=(fun v1 v7=>(aa (eqv false 1 v7 .nilp) fun x0=>some (.normal,[(1,v1),(7,v7),(19,x0)],s):OR)) (get ρ 1) (get ρ 7):=zr
@[go_sem] theorem aha:rc D b T6 ρ s= some (.normal,[(4,.nilp),(5,.nilp),(6,.nilp)],s):=zr
@[go_sem] theorem agK:rc D b UX ρ s=(fun v1 v7=>(aa (rf D bL [v1] s) fun x0=>aa (rf D eC [] x0.2) fun x1=>aa (rf D dk [v7,(.int .i64 10),x0.1,x1.1] x1.2) fun x2=>aa (aF 0 x2.1) fun x3=>aa (aF 1 x2.1) fun _x4=>some (.normal,[(7,v7),(9,x3)],x2.2):OR)) (get ρ 1) (get ρ 7):=zr
@[go_sem] theorem ahg:rc D b UA ρ s=(fun v7 v9=>(aa (eqv false 1 v9 .nilp) fun x0=>some (.normal,[(7,v7),(9,v9),(29,x0)],s):OR)) (get ρ 7) (get ρ 9):=zr
@[go_sem] theorem agJ:rc D b TC ρ s= some (.normal,[(4,.nilp),(5,.nilp),(6,.nilp)],s):=zr
@[go_sem] theorem agO:rc D b Un ρ s=(fun v7 v9=>(aa (rf D dL [] s) fun x0=>aa (rf D lF [v7,v9,x0.1,(.int .i64 0)] x0.2) fun x1=>some (.normal,[(4,v7),(5,v9),(6,x1.1)],x1.2):OR)) (get ρ 7) (get ρ 9):=zr
@[go_sem] theorem ahb:rc D b UV ρ s=(fun v0 v1=>(if V.ok v1 && aq false v1 then let x0:V:=.ptr (St.fresh s false) [] (V.tag v1); let s0:St:=St.new s false v1; some (.normal,[(0,v0),(3,x0)],s0) else none:OR)) (get ρ 0) (get ρ 1):=zr
@[go_sem] theorem ag3:rc D b Tu ρ s=(fun v0 v3=>(aa (ae 54 0 10 v3) fun x0=>aa (ldv s 10 x0) fun x1=>aa (rf D aD [x1,(.int .i64 4)] s) fun x2=>some (.normal,[(0,v0),(3,v3),(6,x2.1)],x2.2):OR)) (get ρ 0) (get ρ 3):=zr
@[go_sem] theorem agV:rc D b Uj ρ s=(fun v0 v3 v6=>(aa (ab .eql v6 (.int .i64 0)) fun x0=>some (.normal,[(0,v0),(3,v3),(6,v6),(7,x0)],s):OR)) (get ρ 0) (get ρ 3) (get ρ 6):=zr
@[go_sem] theorem agM:rc D b TW ρ s=(fun v0 v3 v6=>(aa (ab .eql v6 (.int .i64 1)) fun x0=>some (.normal,[(0,v0),(3,v3),(6,v6),(7,x0)],s):OR)) (get ρ 0) (get ρ 3) (get ρ 6):=zr
@[go_sem] theorem agQ:rc D b UC ρ s=(fun v0 v3=>(aa (ae 54 1 10 v3) fun x0=>aa (ldv s 10 x0) fun x1=>aa (ix D (bc b [x1,(.int .i64 20)]) b aD [x1,(.int .i64 20)] s) fun x2=>aa (ae 54 2 10 v3) fun x3=>aa (ldv s 10 x3) fun x4=>aa (ix D (bc b [x4,(.int .i64 8)]) b aD [x4,(.int .i64 8)] s) fun x5=>aa (ae 54 3 18 v3) fun x6=>aa (ldv s 18 x6) fun x7=>aa (rf D fa [v0,x2,x5,x7] s) fun x8=>some (.normal,[],x8.2):OR)) (get ρ 0) (get ρ 3):=zd
@[go_sem] theorem agH:rc D b Tr ρ s=(fun v0 v3 v6=>(aa (ab .eql v6 (.int .i64 2)) fun x0=>some (.normal,[(0,v0),(3,v3),(6,v6),(20,x0)],s):OR)) (get ρ 0) (get ρ 3) (get ρ 6):=zr
@[go_sem] theorem ahh:rc D b Ux ρ s=(fun v0 v3=>(aa (ae 54 2 10 v3) fun x0=>aa (ldv s 10 x0) fun x1=>aa (rf D aD [x1,(.int .i64 2)] s) fun x2=>aa (ab .add (.int .i64 1) x2.1) fun x3=>aa (rf D ep [v0,x3] x2.2) fun x4=>some (.normal,[],x4.2):OR)) (get ρ 0) (get ρ 3):=zr
@[go_sem] theorem agT:rc D b TK ρ s=(fun v0 v3 v6=>(aa (ab .eql v6 (.int .i64 3)) fun x0=>some (.normal,[(0,v0),(3,v3),(28,x0)],s):OR)) (get ρ 0) (get ρ 3) (get ρ 6):=zr
@[go_sem] theorem agY:rc D b UQ ρ s=(fun v0 v3=>(aa (ae 54 1 10 v3) fun x0=>aa (ldv s 10 x0) fun x1=>aa (rf D aD [x1,(.int .i64 20)] s) fun x2=>aa (rf D eY [v0,x2.1] x2.2) fun x3=>some (.normal,[],x3.2):OR)) (get ρ 0) (get ρ 3):=zr
@[go_sem] theorem agI:rc D b Ug ρ s=(fun v0=>(some (.normal,[(0,v0)],s):OR)) (get ρ 0):=zr
@[go_sem] theorem ag6:rc D b TQ ρ s=(fun v0=>(aa (ai v0) fun x0=>aa (ae 43 1 1 x0) fun x1=>aa (ldv s 1 x1) fun x2=>aa (rf D bI [x2] s) fun x3=>some (.normal,[(2,x3.1)],x3.2):OR)) (get ρ 0):=zr
@[go_sem] theorem agS:rc D b TD ρ s=(fun v0 v1=>(some (.normal,[(0,v0),(1,v1)],s):OR)) (get ρ 0) (get ρ 1):=zr
@[go_sem] theorem agR:rc D b TJ ρ s=(fun v0 v1=>(aa (ab .lss v0 (.int .i64 0)) fun x0=>some (.normal,[(0,v0),(1,v1),(6,x0)],s):OR)) (get ρ 0) (get ρ 1):=zr
@[go_sem] theorem ahi:rc D b UK ρ s=(fun v0 v1=>(aa (ab .add v0 (.int .i64 1)) fun x0=>aa (vun .neg x0) fun x1=>some (.normal,[(0,x1),(1,v1)],s):OR)) (get ρ 0) (get ρ 1):=zr
@[go_sem] theorem agP:rc D b TZ ρ s=(fun v0 v1=>(aa (ab .rem v0 v1) fun x0=>some (.normal,[(4,x0)],s):OR)) (get ρ 0) (get ρ 1):=zr
@[go_sem] theorem ac6:rc D b Ic ρ s=(fun v0=>(some (.normal,[(0,v0)],s):OR)) (get ρ 0):=zr
@[go_sem] theorem aaW:rc D b P5 ρ s=(fun v0=>(aa (ai v0) fun x0=>aa (ae 43 1 1 x0) fun x1=>aa (ldv s 1 x1) fun x2=>aa (rf D bf [x2] s) fun x3=>aa (aF 0 x3.1) fun x4=>aa (aF 1 x3.1) fun x5=>some (.normal,[(2,x4),(3,x5)],x3.2):OR)) (get ρ 0):=zr
@[go_sem] theorem abE:rc D b Ol ρ s=(fun v0=>(let x0:V:=.ptr (St.fresh s false) [] 48; let s0:St:=St.new s false (.agg 48 (List.replicate 49 (.agg 42 [(.int .i64 0),(.int .i64 0),(.int .i64 0)]))); let x1:V:=.ptr (St.fresh s0 false) [] 50; let s1:St:=St.new s0 false (.agg 50 (List.replicate 8 (.int .i64 0))); some (.normal,[(0,v0),(2,x0),(3,x1)],s1):OR)) (get ρ 0):=zr
@[go_sem] theorem ZX:rc D b Mi ρ s=(fun v0 v2 v3=>(aa (ai v0) fun x0=>aa (ae 43 3 48 x0) fun x1=>aa (ldv s 48 x1) fun x2=>aa (ai v0) fun x3=>aa (ae 43 4 50 x3) fun x4=>aa (uh s 50 x4 v0) fun x5=>aa (o5 b s 48 x2 v2 [v0]) fun s6=>aa (stv b s6 50 x5 v3) fun s7=>some (.normal,[(2,v2),(3,v3)],s7):OR)) (get ρ 0) (get ρ 2) (get ρ 3):=zd
@[go_sem] theorem aeH:rc D b KS ρ s=(fun v0=>(let x0:V:=.ptr (St.fresh s false) [] 48; let s0:St:=St.new s false (.agg 48 (List.replicate 49 (.agg 42 [(.int .i64 0),(.int .i64 0),(.int .i64 0)]))); some (.normal,[(0,v0),(2,x0)],s0):OR)) (get ρ 0):=zr
@[go_sem] theorem aa7:rc D b JR ρ s=(fun v0 v2=>(aa (ai v0) fun x0=>aa (ae 43 2 48 x0) fun x1=>aa (ldv s 48 x1) fun x2=>aa (stv b s 48 x2 v2) fun s3=>some (.normal,[(2,v2)],s3):OR)) (get ρ 0) (get ρ 2):=zr
@[go_sem] theorem aeW:rc D b JY ρ s=(fun v0 v1=>(some (.normal,[(0,v0),(1,v1)],s):OR)) (get ρ 0) (get ρ 1):=zr
@[go_sem] theorem YC:rc D b Jh ρ s=(fun v0 v1=>(aa (ai v0) fun x0=>aa (ae 61 4 1 x0) fun x1=>aa (ldv s 1 x1) fun x2=>aa (V.slen false x2) fun x3=>aa (ab .gtr (.int .i64 x3) (.int .i64 0)) fun x4=>some (.normal,[(0,v0),(1,v1),(15,x4)],s):OR)) (get ρ 0) (get ρ 1):=zr
@[go_sem] theorem aar:rc D b Nr ρ s= some (.normal,[(4,(.int .i64 3))],s):=zr
@[go_sem] theorem aaG:rc D b IG ρ s=(fun v0 v1=>(aa (ab .lss v1 (.int .i64 0)) fun x0=>some (.normal,[(0,v0),(1,v1),(22,x0)],s):OR)) (get ρ 0) (get ρ 1):=zr
@[go_sem] theorem agf:rc D b Pl ρ s=(fun v0 v1=>(aa (ab .gtr v1 (.int .i64 1099511627776)) fun x0=>some (.normal,[(0,v0),(1,v1),(22,x0)],s):OR)) (get ρ 0) (get ρ 1):=zr
@[go_sem] theorem af6:rc D b LZ ρ s=(fun v0 v1=>(aa (ai v0) fun x0=>aa (ae 61 2 44 x0) fun x1=>aa (ae 44 0 10 x1) fun x2=>aa (ldv s 10 x2) fun x3=>aa (ab .geq x3 (.int .i64 1099511627776)) fun x4=>some (.normal,[(0,v0),(1,v1),(22,x4)],s):OR)) (get ρ 0) (get ρ 1):=zr
@[go_sem] theorem aae:rc D b QJ ρ s= some (.normal,[(4,(.int .i64 1))],s):=zr
@[go_sem] theorem YO:rc D b Lo ρ s=(fun v0 v1=>(aa (ai v0) fun x0=>aa (ae 61 1 1 x0) fun x1=>aa (ldv s 1 x1) fun x2=>aa (rf D ei [x2] s) fun x3=>some (.normal,[(0,v0),(1,v1),(5,x3.1)],x3.2):OR)) (get ρ 0) (get ρ 1):=zr
@[go_sem] theorem afS:rc D b Jc ρ s=(fun v0 v1 v5=>(aa (ab .neq v5 (.int .i64 0)) fun x0=>some (.normal,[(0,v0),(1,v1),(5,v5),(39,x0)],s):OR)) (get ρ 0) (get ρ 1) (get ρ 5):=zr
@[go_sem] theorem abL:rc D b NI ρ s=(fun v5=>(some (.normal,[(4,v5)],s):OR)) (get ρ 5):=zr
@[go_sem] theorem XO:rc D b Dx ρ s=(fun v0 v1=>(aa (ai v0) fun x0=>aa (ae 61 1 1 x0) fun x1=>aa (ldv s 1 x1) fun x2=>aa (rf D bN [x2] s) fun x3=>aa (aF 0 x3.1) fun x4=>aa (aF 1 x3.1) fun _x5=>aa (ai v0) fun x6=>aa (ae 61 6 48 x6) fun x7=>aa (stv b x3.2 48 x4 x7) fun s8=>some (.normal,[(0,v0),(1,v1)],s8):OR)) (get ρ 0) (get ρ 1):=zr
@[go_sem] theorem WC:rc D b Cc ρ s=(fun v0 v1=>(aa (ai v0) fun x0=>aa (ae 61 1 1 x0) fun x1=>aa (ldv s 1 x1) fun x2=>aa (rf D bo [x2] s) fun x3=>aa (aF 0 x3.1) fun x4=>aa (aF 1 x3.1) fun x5=>let x6:V:=.ptr (St.fresh x3.2 false) [] 48; let s6:St:=St.new x3.2 false (.agg 48 (List.replicate 49 (.agg 42 [(.int .i64 0),(.int .i64 0),(.int .i64 0)]))); let x7:V:=.ptr (St.fresh s6 false) [] 50; let s7:St:=St.new s6 false (.agg 50 (List.replicate 8 (.int .i64 0))); aa (stv b s7 48 x4 x6) fun s8=>aa (stv b s8 50 x5 x7) fun s9=>some (.normal,[(0,v0),(1,v1),(6,x6),(7,x7)],s9):OR)) (get ρ 0) (get ρ 1):=zr
@[go_sem] theorem Wj:rc D b Df ρ s=(fun v0 v1 v6 v7=>(aa (ldv s 50 v7) fun x0=>aa (ai v0) fun x1=>aa (ae 61 5 10 x1) fun x2=>aa (o5 b s 10 v1 x2 [v7]) fun s3=>aa (ai v0) fun x4=>aa (ae 61 7 50 x4) fun x5=>aa (stv b s3 50 x0 x5) fun s6=>some (.normal,[(0,v0),(6,v6)],s6):OR)) (get ρ 0) (get ρ 1) (get ρ 6) (get ρ 7):=zd
@[go_sem] theorem Wy:rc D b Dd ρ s=(fun v0 v6=>(let x0:V:=.ptr (St.fresh s false) [] 82; let s0:St:=St.new s false (.agg 82 (List.replicate 1024 (.bool false))); some (.normal,[(0,v0),(6,v6),(8,x0)],s0):OR)) (get ρ 0) (get ρ 6):=zr
@[go_sem] theorem Xw:rc D b BW ρ s=(fun v0 v6 v8=>(aa (ldv s 48 v6) fun x0=>some (.normal,[(0,v0),(6,v6),(8,v8),(68,x0),(69,(.int .i64 0))],s):OR)) (get ρ 0) (get ρ 6) (get ρ 8):=zr
@[go_sem] theorem Ws:rc D b CK ρ s=(fun v0 v6 v8 v68 v69=>(aa (ab .lss v69 (.int .i64 49)) fun x0=>some (.normal,[(0,v0),(6,v6),(8,v8),(68,v68),(69,v69),(70,x0)],s):OR)) (get ρ 0) (get ρ 6) (get ρ 8) (get ρ 68) (get ρ 69):=zr
@[go_sem] theorem Xs:rc D b Fe ρ s=(fun v0 v6 v8 v68 v69=>(aa (iq 48 49 v68 v69) fun x0=>let x1:V:=.ptr (St.fresh s false) [] 42; let s1:St:=St.new s false (.agg 42 [(.int .i64 0),(.int .i64 0),(.int .i64 0)]); aa (stv b s1 42 x0 x1) fun s2=>some (.normal,[(0,v0),(6,v6),(8,v8),(10,x1),(68,v68),(69,v69)],s2):OR)) (get ρ 0) (get ρ 6) (get ρ 8) (get ρ 68) (get ρ 69):=zr
@[go_sem] theorem Wl:rc D b Ct ρ s=(fun v0 v6 v8 v10 v68 v69=>(aa (ae 42 0 10 v10) fun x0=>aa (ldv s 10 x0) fun x1=>aa (ab .neq x1 (.int .i64 0)) fun x2=>some (.normal,[(0,v0),(6,v6),(8,v8),(10,v10),(68,v68),(69,v69),(74,x2)],s):OR)) (get ρ 0) (get ρ 6) (get ρ 8) (get ρ 10) (get ρ 68) (get ρ 69):=zr
@[go_sem] theorem Xz:rc D b CE ρ s=(fun v0 v6 v8 v10 v68 v69=>(aa (ae 42 2 10 v10) fun x0=>aa (ldv s 10 x0) fun x1=>aa (aY 82 1024 0 v8 x1) fun x2=>aa (stv b s 0 (.bool true) x2) fun s3=>some (.normal,[(0,v0),(6,v6),(8,v8),(68,v68),(69,v69)],s3):OR)) (get ρ 0) (get ρ 6) (get ρ 8) (get ρ 10) (get ρ 68) (get ρ 69):=zr
@[go_sem] theorem WY:rc D b DU ρ s=(fun v0 v6 v8 v68 v69=>(aa (ab .add v69 (.int .i64 1)) fun x0=>some (.normal,[(0,v0),(6,v6),(8,v8),(68,v68),(69,x0)],s):OR)) (get ρ 0) (get ρ 6) (get ρ 8) (get ρ 68) (get ρ 69):=zr
@[go_sem] theorem Xq:rc D b CG ρ s=(fun v0 v6 v8=>(aa (ai v0) fun x0=>aa (ae 61 6 48 x0) fun x1=>aa (ldv s 48 x1) fun x2=>some (.normal,[(0,v0),(6,v6),(8,v8),(82,x2),(83,(.int .i64 0))],s):OR)) (get ρ 0) (get ρ 6) (get ρ 8):=zr
@[go_sem] theorem Wt:rc D b C5 ρ s=(fun v0 v6 v8 v82 v83=>(aa (ab .lss v83 (.int .i64 49)) fun x0=>some (.normal,[(0,v0),(6,v6),(8,v8),(82,v82),(83,v83),(84,x0)],s):OR)) (get ρ 0) (get ρ 6) (get ρ 8) (get ρ 82) (get ρ 83):=zr
@[go_sem] theorem XF:rc D b EY ρ s=(fun v0 v6 v8 v82 v83=>(aa (iq 48 49 v82 v83) fun x0=>let x1:V:=.ptr (St.fresh s false) [] 42; let s1:St:=St.new s false (.agg 42 [(.int .i64 0),(.int .i64 0),(.int .i64 0)]); aa (stv b s1 42 x0 x1) fun s2=>some (.normal,[(0,v0),(6,v6),(8,v8),(12,x1),(82,v82),(83,v83)],s2):OR)) (get ρ 0) (get ρ 6) (get ρ 8) (get ρ 82) (get ρ 83):=zr
@[go_sem] theorem Wv:rc D b Fz ρ s=(fun v0 v6 v8 v12 v82 v83=>(aa (ae 42 0 10 v12) fun x0=>aa (ldv s 10 x0) fun x1=>aa (ab .neq x1 (.int .i64 0)) fun x2=>an x2 true (aa (ae 42 2 10 v12) fun x3=>aa (ldv s 10 x3) fun x4=>aa (aY 82 1024 0 v8 x4) fun x5=>aa (ldv s 0 x5) fun x6=>aa (vun .not x6) fun x7=>some (.normal,[(0,v0),(6,v6),(8,v8),(12,v12),(82,v82),(83,v83),(95,x7)],s)) (some (.normal,[(0,v0),(6,v6),(8,v8),(12,v12),(82,v82),(83,v83),(95,(.bool false))],s)) (none):OR)) (get ρ 0) (get ρ 6) (get ρ 8) (get ρ 12) (get ρ 82) (get ρ 83):=zr
@[go_sem] theorem Ww:rc D b Fa ρ s=(fun v0 v6 v8 v12 v82 v83=>(aa (ai v0) fun x0=>aa (ae 61 4 1 x0) fun x1=>aa (ldv s 1 x1) fun x2=>aa (ae 42 2 10 v12) fun x3=>aa (ldv s 10 x3) fun x4=>aa (ak [.nilf,(.int .i64 0)] [(0,(.fn bP [])),(1,x4)]) fun x5=>aa (m8 false 63 47 1 (.agg 47 [.nilf,(.int .i64 0)]) s [(0,(.agg 47 x5))]) fun x6=>aa (aG b true 63 47 x2 x6.1 x6.2) fun x7=>aa (ai v0) fun x8=>aa (ae 61 4 1 x8) fun x9=>aa (stv b x7.2 1 x7.1 x9) fun s10=>some (.normal,[(0,v0),(6,v6),(8,v8),(82,v82),(83,v83)],s10):OR)) (get ρ 0) (get ρ 6) (get ρ 8) (get ρ 12) (get ρ 82) (get ρ 83):=zd
@[go_sem] theorem WU:rc D b Ea ρ s=(fun v0 v6 v8 v82 v83=>(aa (ab .add v83 (.int .i64 1)) fun x0=>some (.normal,[(0,v0),(6,v6),(8,v8),(82,v82),(83,x0)],s):OR)) (get ρ 0) (get ρ 6) (get ρ 8) (get ρ 82) (get ρ 83):=zr
@[go_sem] theorem XK:rc D b ES ρ s=(fun v0 v6=>(aa (ai v0) fun x0=>aa (ae 61 6 48 x0) fun x1=>aa (ldv s 48 x1) fun x2=>aa (ldv s 48 v6) fun x3=>aa (rf D jh [x2,x3] s) fun x4=>aa (V.slen false x4.1) fun x5=>some (.normal,[(0,v0),(114,x4.1),(115,(.int .i64 x5)),(116,(.int .i64 0))],x4.2):OR)) (get ρ 0) (get ρ 6):=zd
@[go_sem] theorem WI:rc D b Fj ρ s=(fun v0 v114 v115 v116=>(aa (ab .lss v116 v115) fun x0=>some (.normal,[(0,v0),(114,v114),(115,v115),(116,v116),(117,x0)],s):OR)) (get ρ 0) (get ρ 114) (get ρ 115) (get ρ 116):=zr
@[go_sem] theorem WE:rc D b Fd ρ s=(fun v0 v114 v115 v116=>(aa (d6 10 v114 v116) fun x0=>aa (ldv s 10 x0) fun x1=>some (.normal,[(0,v0),(14,x1),(114,v114),(115,v115),(116,v116)],s):OR)) (get ρ 0) (get ρ 114) (get ρ 115) (get ρ 116):=zr
@[go_sem] theorem W8:rc D b DK ρ s=(fun v0 v14 v114 v115 v116=>(aa (ai v0) fun x0=>aa (ae 61 4 1 x0) fun x1=>aa (ldv s 1 x1) fun x2=>aa (ak [.nilf,(.int .i64 0)] [(0,(.fn dG [])),(1,v14)]) fun x3=>aa (m8 false 63 47 1 (.agg 47 [.nilf,(.int .i64 0)]) s [(0,(.agg 47 x3))]) fun x4=>aa (aG b true 63 47 x2 x4.1 x4.2) fun x5=>aa (ai v0) fun x6=>aa (ae 61 4 1 x6) fun x7=>aa (stv b x5.2 1 x5.1 x7) fun s8=>some (.normal,[(0,v0),(114,v114),(115,v115),(116,v116)],s8):OR)) (get ρ 0) (get ρ 14) (get ρ 114) (get ρ 115) (get ρ 116):=zr
@[go_sem] theorem XD:rc D b Fw ρ s=(fun v0 v114 v115 v116=>(aa (ab .add v116 (.int .i64 1)) fun x0=>some (.normal,[(0,v0),(114,v114),(115,v115),(116,x0)],s):OR)) (get ρ 0) (get ρ 114) (get ρ 115) (get ρ 116):=zr
@[go_sem] theorem WA:rc D b Fi ρ s=(fun v0=>(aa (ai v0) fun x0=>aa (ae 61 4 1 x0) fun x1=>aa (ldv s 1 x1) fun x2=>aa (ak [.nilf,(.int .i64 0)] [(0,(.fn dE []))]) fun x3=>aa (ak [.nilf,(.int .i64 0)] [(0,(.fn dm []))]) fun x4=>aa (ak [.nilf,(.int .i64 0)] [(0,(.fn cS []))]) fun x5=>aa (m8 false 63 47 3 (.agg 47 [.nilf,(.int .i64 0)]) s [(0,(.agg 47 x3)),(1,(.agg 47 x4)),(2,(.agg 47 x5))]) fun x6=>aa (aG b true 63 47 x2 x6.1 x6.2) fun x7=>aa (ai v0) fun x8=>aa (ae 61 4 1 x8) fun x9=>aa (stv b x7.2 1 x7.1 x9) fun s10=>some (.normal,[],s10):OR)) (get ρ 0):=zr
@[go_sem] theorem Xf:rc D b Ez ρ s= some (.normal,[(4,(.int .i64 0))],s):=zr
@[go_sem] theorem ZD:rc D b NT ρ s=(fun v0=>(some (.normal,[(0,v0)],s):OR)) (get ρ 0):=zr
@[go_sem] theorem agc:rc D b Iy ρ s=(fun v0=>(aa (ai v0) fun x0=>aa (ae 61 4 1 x0) fun x1=>aa (ldv s 1 x1) fun x2=>aa (V.slen false x2) fun x3=>some (.normal,[(2,(.int .i64 x3))],s):OR)) (get ρ 0):=zr
@[go_sem] theorem adu:rc D b Jq ρ s=(fun v0=>(some (.normal,[(0,v0)],s):OR)) (get ρ 0):=zr
@[go_sem] theorem Yz:rc D b JI ρ s=(fun v0=>(aa (ai v0) fun x0=>aa (ae 61 4 1 x0) fun x1=>aa (ldv s 1 x1) fun x2=>aa (V.slen false x2) fun x3=>aa (ab .eql (.int .i64 x3) (.int .i64 0)) fun x4=>some (.normal,[(0,v0),(11,x4)],s):OR)) (get ρ 0):=zr
@[go_sem] theorem aco:rc D b Qk ρ s= some (.normal,[(2,(.bool false)),(3,(.int .i64 3))],s):=zr
@[go_sem] theorem abN:rc D b JL ρ s=(fun v0=>(aa (ai v0) fun x0=>aa (ae 61 4 1 x0) fun x1=>aa (ldv s 1 x1) fun x2=>aa (d6 47 x2 (.int .i64 0)) fun x3=>aa (ldv s 47 x3) fun x4=>let x5:V:=.ptr (St.fresh s false) [] 47; let s5:St:=St.new s false (.agg 47 [.nilf,(.int .i64 0)]); aa (stv b s5 47 x4 x5) fun s6=>some (.normal,[(0,v0),(4,x5)],s6):OR)) (get ρ 0):=zr
@[go_sem] theorem Za:rc D b LU ρ s=(fun v0 v4=>(aa (ae 47 0 1 v4) fun x0=>aa (ldv s 1 x0) fun x1=>aa (ae 47 1 10 v4) fun x2=>aa (ldv s 10 x2) fun x3=>aa (sC D [v0,x3] s x1) fun x4=>some (.normal,[(0,v0),(5,x4.1)],x4.2):OR)) (get ρ 0) (get ρ 4):=zr
@[go_sem] theorem YM:rc D b KB ρ s=(fun v0 v5=>(some (.normal,[(0,v0),(5,v5),(24,v5)],s):OR)) (get ρ 0) (get ρ 5):=zr
@[go_sem] theorem agF:rc D b Iv ρ s=(fun v0 v5 v24=>(aa (ab .eql v24 (.int .i64 0)) fun x0=>some (.normal,[(0,v0),(5,v5),(24,v24),(26,x0)],s):OR)) (get ρ 0) (get ρ 5) (get ρ 24):=zr
@[go_sem] theorem Zy:rc D b Kd ρ s=(fun v0=>(aa (ai v0) fun x0=>aa (ae 61 4 1 x0) fun x1=>aa (ldv s 1 x1) fun x2=>aa (gP 47 (some (.int .i64 1)) none none x2) fun x3=>aa (ai v0) fun x4=>aa (ae 61 4 1 x4) fun x5=>aa (stv b s 1 x3 x5) fun s6=>some (.normal,[(0,v0)],s6):OR)) (get ρ 0):=zr
@[go_sem] theorem Yy:rc D b J2 ρ s=(fun v0=>(aa (ai v0) fun x0=>aa (ae 61 4 1 x0) fun x1=>aa (ldv s 1 x1) fun x2=>aa (V.slen false x2) fun x3=>aa (ab .eql (.int .i64 x3) (.int .i64 0)) fun x4=>some (.normal,[(2,x4),(3,(.int .i64 0))],s):OR)) (get ρ 0):=zr
@[go_sem] theorem adb:rc D b ND ρ s=(fun v0 v5 v24=>(aa (ab .eql v24 (.int .i64 10)) fun x0=>some (.normal,[(0,v0),(5,v5),(42,x0)],s):OR)) (get ρ 0) (get ρ 5) (get ρ 24):=zr
@[go_sem] theorem XA:rc D b CF ρ s=(fun v0 v5=>(aa (ai v0) fun x0=>aa (ae 61 1 1 x0) fun x1=>aa (ldv s 1 x1) fun x2=>aa (rf D dV [x2] s) fun x3=>some (.normal,[(0,v0),(5,v5)],x3.2):OR)) (get ρ 0) (get ρ 5):=zr
@[go_sem] theorem WN:rc D b D1 ρ s=(fun v0 v5=>(aa (ai v0) fun x0=>aa (ae 61 4 1 x0) fun x1=>aa (stv b s 1 .nils x1) fun s2=>some (.normal,[(5,v5)],s2):OR)) (get ρ 0) (get ρ 5):=zr
@[go_sem] theorem XQ:rc D b El ρ s=(fun v5=>(some (.normal,[(2,(.bool false)),(3,v5)],s):OR)) (get ρ 5):=zr
@[go_sem] theorem Xb:rc D b EX ρ s=(fun v5=>(some (.normal,[(2,(.bool false)),(3,v5)],s):OR)) (get ρ 5):=zr
@[go_sem] theorem Zj:rc D b Jd ρ s=(fun v0=>(let x0:V:=.ptr (St.fresh s false) [] 48; let s0:St:=St.new s false (.agg 48 (List.replicate 49 (.agg 42 [(.int .i64 0),(.int .i64 0),(.int .i64 0)]))); some (.normal,[(0,v0),(2,x0)],s0):OR)) (get ρ 0):=zr
@[go_sem] theorem acW:rc D b Qd ρ s=(fun v0 v2=>(aa (ai v0) fun x0=>aa (ae 43 6 0 x0) fun x1=>aa (ldv s 0 x1) fun x2=>aa (vun .not x2) fun x3=>some (.normal,[(0,v0),(2,v2),(8,x3)],s):OR)) (get ρ 0) (get ρ 2):=zr
@[go_sem] theorem af3:rc D b JK ρ s=(fun v2=>(aa (ldv s 48 v2) fun x0=>aa (stv b s 48 x0 v2) fun s1=>some (.normal,[(2,v2),(3,(.bool false))],s1):OR)) (get ρ 2):=zr
@[go_sem] theorem agj:rc D b Jb ρ s=(fun v0 v2=>(aa (ai v0) fun x0=>aa (ae 43 5 48 x0) fun x1=>aa (ldv s 48 x1) fun x2=>aa (stv b s 48 x2 v2) fun s3=>some (.normal,[(2,v2),(3,(.bool true))],s3):OR)) (get ρ 0) (get ρ 2):=zr
@[go_sem] theorem act:rc D b Q0 ρ s=(fun v0=>(let x0:V:=.ptr (St.fresh s false) [] 44; let s0:St:=St.new s false (.agg 44 [(.int .i64 0),(.int .i64 0),(.int .i64 0),(.int .i64 0)]); some (.normal,[(0,v0),(2,x0)],s0):OR)) (get ρ 0):=zr
@[go_sem] theorem afn:rc D b Mm ρ s=(fun v0 v2=>(aa (ai v0) fun x0=>aa (ae 61 2 44 x0) fun x1=>aa (ldv s 44 x1) fun x2=>aa (ai v0) fun x3=>aa (ae 61 3 10 x3) fun x4=>aa (uh s 10 x4 v0) fun x5=>aa (o5 b s 44 x2 v2 [v0]) fun s6=>some (.normal,[(2,v2),(3,x5)],s6):OR)) (get ρ 0) (get ρ 2):=zd
@[go_sem] theorem aeq:rc D b Q6 ρ s=(fun v0=>(some (.normal,[(0,v0)],s):OR)) (get ρ 0):=zr
@[go_sem] theorem abp:rc D b M7 ρ s=(fun v0=>(aa (V.slen false v0) fun x0=>aa (rf D mR [(.int .i64 x0)] s) fun x1=>aa (aF 0 x1.1) fun x2=>aa (aF 1 x1.1) fun x3=>some (.normal,[(0,v0),(4,x2),(5,x3)],x1.2):OR)) (get ρ 0):=zr
@[go_sem] theorem afa:rc D b Of ρ s=(fun v0 v4 v5=>(aa (ab .neq v5 (.int .i64 0)) fun x0=>some (.normal,[(0,v0),(4,v4),(5,v5),(15,x0)],s):OR)) (get ρ 0) (get ρ 4) (get ρ 5):=zr
@[go_sem] theorem ab4:rc D b Jp ρ s=(fun v5=>(some (.normal,[(2,.nilp),(3,v5)],s):OR)) (get ρ 5):=zr
@[go_sem] theorem acj:rc D b HZ ρ s=(fun v0 v4=>(aa (V.slen false v0) fun x0=>some (.normal,[(4,v4),(17,v0),(18,(.int .i64 x0)),(19,(.int .i64 0))],s):OR)) (get ρ 0) (get ρ 4):=zr
@[go_sem] theorem ab3:rc D b Pa ρ s=(fun v4 v17 v18 v19=>(aa (ab .lss v19 v18) fun x0=>some (.normal,[(4,v4),(17,v17),(18,v18),(19,v19),(20,x0)],s):OR)) (get ρ 4) (get ρ 17) (get ρ 18) (get ρ 19):=zr
@[go_sem] theorem ab9:rc D b JO ρ s=(fun v4 v17 v18 v19=>(aa (d6 24 v17 v19) fun x0=>aa (ldv s 24 x0) fun x1=>let x2:V:=.ptr (St.fresh s false) [] 24; let s2:St:=St.new s false (.agg 24 (List.replicate 8 (.int .u64 0))); aa (stv b s2 24 x1 x2) fun s3=>some (.normal,[(4,v4),(6,v19),(7,x2),(17,v17),(18,v18),(19,v19)],s3):OR)) (get ρ 4) (get ρ 17) (get ρ 18) (get ρ 19):=zr
@[go_sem] theorem Zw:rc D b NJ ρ s=(fun v4 v6 v7 v17 v18 v19=>(aa (ai v4) fun x0=>aa (ae 59 0 1 x0) fun x1=>aa (ldv s 1 x1) fun x2=>aa (ai v4) fun x3=>aa (ae 59 0 1 x3) fun x4=>aa (ldv s 1 x4) fun x5=>aa (ldv s 24 v7) fun x6=>aa (ldv s 24 v7) fun x7=>aa (d6 55 x2 v6) fun x8=>aa (ae 55 0 24 x8) fun x9=>aa (o5 b s 24 x6 x9 [v7]) fun s10=>aa (d6 55 x5 v6) fun x11=>aa (ae 55 1 24 x11) fun x12=>aa (stv b s10 24 x7 x12) fun s13=>some (.normal,[(4,v4),(17,v17),(18,v18),(19,v19)],s13):OR)) (get ρ 4) (get ρ 6) (get ρ 7) (get ρ 17) (get ρ 18) (get ρ 19):=zd
@[go_sem] theorem YT:rc D b Ra ρ s=(fun v4 v17 v18 v19=>(aa (ab .add v19 (.int .i64 1)) fun x0=>some (.normal,[(4,v4),(17,v17),(18,v18),(19,x0)],s):OR)) (get ρ 4) (get ρ 17) (get ρ 18) (get ρ 19):=zr
@[go_sem] theorem ady:rc D b QE ρ s=(fun v4=>(some (.normal,[(2,v4),(3,(.int .i64 0))],s):OR)) (get ρ 4):=zr
@[go_sem] theorem acQ:rc D b Mt ρ s=(fun v0 v1=>(some (.normal,[(0,v0),(1,v1)],s):OR)) (get ρ 0) (get ρ 1):=zr
@[go_sem] theorem aeF:rc D b Pk ρ s=(fun v0 v1=>(aa (to true 58 24 (.agg 24 (List.replicate 8 (.int .u64 0))) s v0 v0) fun x0=>some (.normal,[(1,v1),(5,x0.1)],x0.2):OR)) (get ρ 0) (get ρ 1):=zr
@[go_sem] theorem Zg:rc D b Lr ρ s=(fun v1 v5=>(aa (rf D bL [v1] s) fun x0=>let x1:V:=.ptr (St.fresh x0.2 false) [] 48; let s1:St:=St.new x0.2 false (.agg 48 (List.replicate 49 (.agg 42 [(.int .i64 0),(.int .i64 0),(.int .i64 0)]))); aa (stv b s1 48 x0.1 x1) fun s2=>some (.normal,[(5,v5),(6,x1)],s2):OR)) (get ρ 1) (get ρ 5):=zr
@[go_sem] theorem acn:rc D b O0 ρ s=(fun v5 v6=>(aa (ak (List.replicate 7 (.int .i64 0)) []) fun x0=>let x1:V:=.ptr (St.fresh s false) [] 60; let s1:St:=St.new s false (.agg 60 (List.replicate 7 (.int .i64 0))); aa (stv b s1 60 (.agg 60 x0) x1) fun s2=>some (.normal,[(5,v5),(6,v6),(7,x1)],s2):OR)) (get ρ 5) (get ρ 6):=zr
@[go_sem] theorem Zt:rc D b OF ρ s=(fun v5 v6 v7=>(some (.normal,[(5,v5),(6,v6),(7,v7),(8,(.int .i64 0))],s):OR)) (get ρ 5) (get ρ 6) (get ρ 7):=zr
@[go_sem] theorem ad4:rc D b IT ρ s=(fun v5 v6 v7 v8=>(aa (ab .lss v8 (.int .i64 7)) fun x0=>some (.normal,[(5,v5),(6,v6),(7,v7),(8,v8),(15,x0)],s):OR)) (get ρ 5) (get ρ 6) (get ρ 7) (get ρ 8):=zr
@[go_sem] theorem acw:rc D b Iw ρ s=(fun v5 v6 v7 v8=>(aa (ab .add (.int .i64 10) v8) fun x0=>aa (ldv s 48 v6) fun x1=>aa (rf D dT [x1,v8] s) fun x2=>aa (aF 0 x2.1) fun x3=>aa (aF 1 x2.1) fun _x4=>aa (d6 24 v5 x0) fun x5=>aa (stv b x2.2 24 x3 x5) fun s6=>some (.normal,[(5,v5),(6,v6),(7,v7),(8,v8)],s6):OR)) (get ρ 5) (get ρ 6) (get ρ 7) (get ρ 8):=zr
@[go_sem] theorem adf:rc D b Lu ρ s=(fun v5 v6 v7 v8=>(aa (ab .add (.int .i64 10) v8) fun x0=>aa (aY 60 7 10 v7 v8) fun x1=>aa (stv b s 10 x0 x1) fun s2=>some (.normal,[(5,v5),(6,v6),(7,v7),(8,v8)],s2):OR)) (get ρ 5) (get ρ 6) (get ρ 7) (get ρ 8):=zr
@[go_sem] theorem afJ:rc D b Oq ρ s=(fun v5 v6 v7 v8=>(aa (ab .add v8 (.int .i64 1)) fun x0=>some (.normal,[(5,v5),(6,v6),(7,v7),(8,x0)],s):OR)) (get ρ 5) (get ρ 6) (get ρ 7) (get ρ 8):=zr
@[go_sem] theorem ago:rc D b Nj ρ s=(fun v5 v7=>(aa (ldv s 60 v7) fun x0=>aa (rf D dX [x0] s) fun x1=>aa (aF 0 x1.1) fun x2=>aa (aF 1 x1.1) fun _x3=>aa (d6 24 v5 (.int .i64 17)) fun x4=>aa (stv b x1.2 24 x2 x4) fun s5=>some (.normal,[(5,v5)],s5):OR)) (get ρ 5) (get ρ 7):=zr
@[go_sem] theorem XI:rc D b Cg ρ s=(fun v5=>(some (.normal,[(4,v5)],s):OR)) (get ρ 5):=zr
@[go_sem] theorem abt:rc D b Ln ρ s=(fun v0 v1 v2 v3=>(if V.ok v2 && aq false v2 then let x0:V:=.ptr (St.fresh s false) [] (V.tag v2); let s0:St:=St.new s false v2; if V.ok v3 && aq false v3 then let x1:V:=.ptr (St.fresh s0 false) [] (V.tag v3); let s1:St:=St.new s0 false v3; some (.normal,[(0,v0),(1,v1),(6,x0),(7,x1)],s1) else none else none:OR)) (get ρ 0) (get ρ 1) (get ρ 2) (get ρ 3):=zr
@[go_sem] theorem abs:rc D b PL ρ s=(fun v0 v1 v6 v7=>(aa (rf D bC [v0] s) fun x0=>aa (rf D gG [v1,x0.1] x0.2) fun x1=>aa (aF 0 x1.1) fun x2=>aa (aF 1 x1.1) fun x3=>some (.normal,[(0,v0),(6,v6),(7,v7),(10,x2),(11,x3)],x1.2):OR)) (get ρ 0) (get ρ 1) (get ρ 6) (get ρ 7):=zr
@[go_sem] theorem abG:rc D b PG ρ s=(fun v0 v6 v7 v10 v11=>(aa (ab .neq v11 (.int .i64 0)) fun x0=>some (.normal,[(0,v0),(6,v6),(7,v7),(10,v10),(11,v11),(25,x0)],s):OR)) (get ρ 0) (get ρ 6) (get ρ 7) (get ρ 10) (get ρ 11):=zr
@[go_sem] theorem Zo:rc D b P9 ρ s=(fun v11=>(some (.normal,[(8,.nilp),(9,v11)],s):OR)) (get ρ 11):=zr
@[go_sem] theorem abW:rc D b Qm ρ s=(fun v0 v6 v7 v10=>(aa (ldv s 48 v6) fun x0=>aa (ldv s 48 v6) fun x1=>aa (ldv s 50 v7) fun x2=>aa (ak [.nilp,.nilp,(.agg 48 (List.replicate 49 (.agg 42 [(.int .i64 0),(.int .i64 0),(.int .i64 0)]))),(.agg 48 (List.replicate 49 (.agg 42 [(.int .i64 0),(.int .i64 0),(.int .i64 0)]))),(.agg 50 (List.replicate 8 (.int .i64 0))),(.agg 48 (List.replicate 49 (.agg 42 [(.int .i64 0),(.int .i64 0),(.int .i64 0)]))),(.bool false),(.agg 82 (List.replicate 1024 (.bool false)))] [(0,v0),(1,v10),(2,x0),(3,x1),(4,x2)]) fun x3=>if V.ok (.agg 43 x3) && aq true (.agg 43 x3) then let x4:V:=.ptr (St.fresh s true) [] (V.tag (.agg 43 x3)); let s4:St:=St.new s true (.agg 43 x3); some (.normal,[(6,v6),(7,v7),(10,v10),(12,x4)],s4) else none:OR)) (get ρ 0) (get ρ 6) (get ρ 7) (get ρ 10):=zr
@[go_sem] theorem aaa:rc D b NA ρ s=(fun v6 v7 v10 v12=>(aa (ldv s 48 v6) fun x0=>some (.normal,[(7,v7),(10,v10),(12,v12),(34,x0),(35,(.int .i64 0))],s):OR)) (get ρ 6) (get ρ 7) (get ρ 10) (get ρ 12):=zr
@[go_sem] theorem ae9:rc D b Pp ρ s=(fun v7 v10 v12 v34 v35=>(aa (ab .lss v35 (.int .i64 49)) fun x0=>some (.normal,[(7,v7),(10,v10),(12,v12),(34,v34),(35,v35),(36,x0)],s):OR)) (get ρ 7) (get ρ 10) (get ρ 12) (get ρ 34) (get ρ 35):=zr
@[go_sem] theorem aaI:rc D b IX ρ s=(fun v7 v10 v12 v34 v35=>(aa (iq 48 49 v34 v35) fun x0=>let x1:V:=.ptr (St.fresh s false) [] 42; let s1:St:=St.new s false (.agg 42 [(.int .i64 0),(.int .i64 0),(.int .i64 0)]); aa (stv b s1 42 x0 x1) fun s2=>some (.normal,[(7,v7),(10,v10),(12,v12),(14,x1),(34,v34),(35,v35)],s2):OR)) (get ρ 7) (get ρ 10) (get ρ 12) (get ρ 34) (get ρ 35):=zr
@[go_sem] theorem ab6:rc D b QG ρ s=(fun v7 v10 v12 v14 v34 v35=>(aa (ae 42 0 10 v14) fun x0=>aa (ldv s 10 x0) fun x1=>aa (ab .neq x1 (.int .i64 0)) fun x2=>an x2 true (aa (ae 42 2 10 v14) fun x3=>aa (ldv s 10 x3) fun x4=>aa (rf D bJ [v10,x4] s) fun x5=>aa (ab .neq x5.1 (.int .i64 0)) fun x6=>some (.normal,[(7,v7),(10,v10),(12,v12),(34,v34),(35,v35),(47,x6)],x5.2)) (some (.normal,[(7,v7),(10,v10),(12,v12),(34,v34),(35,v35),(47,(.bool false))],s)) (none):OR)) (get ρ 7) (get ρ 10) (get ρ 12) (get ρ 14) (get ρ 34) (get ρ 35):=zr
@[go_sem] theorem afp:rc D b OK ρ s= some (.normal,[(8,.nilp),(9,(.int .i64 21))],s):=zr
@[go_sem] theorem XS:rc D b Ch ρ s=(fun v7 v10 v12 v34 v35=>(aa (ab .add v35 (.int .i64 1)) fun x0=>some (.normal,[(7,v7),(10,v10),(12,v12),(34,v34),(35,x0)],s):OR)) (get ρ 7) (get ρ 10) (get ρ 12) (get ρ 34) (get ρ 35):=zr
@[go_sem] theorem XP:rc D b BT ρ s=(fun v7 v10 v12=>(aa (ldv s 50 v7) fun x0=>some (.normal,[(10,v10),(12,v12),(49,x0),(50,(.int .i64 0))],s):OR)) (get ρ 7) (get ρ 10) (get ρ 12):=zr
@[go_sem] theorem Xo:rc D b BX ρ s=(fun v10 v12 v49 v50=>(aa (ab .lss v50 (.int .i64 8)) fun x0=>some (.normal,[(10,v10),(12,v12),(49,v49),(50,v50),(51,x0)],s):OR)) (get ρ 10) (get ρ 12) (get ρ 49) (get ρ 50):=zr
@[go_sem] theorem WK:rc D b BR ρ s=(fun v10 v12 v49 v50=>(aa (iq 50 8 v49 v50) fun x0=>some (.normal,[(10,v10),(12,v12),(16,x0),(49,v49),(50,v50)],s):OR)) (get ρ 10) (get ρ 12) (get ρ 49) (get ρ 50):=zr
@[go_sem] theorem Wh:rc D b DC ρ s=(fun v10 v12 v16 v49 v50=>(aa (rf D bJ [v10,v16] s) fun x0=>aa (ab .neq x0.1 (.int .i64 0)) fun x1=>some (.normal,[(10,v10),(12,v12),(49,v49),(50,v50),(56,x1)],x0.2):OR)) (get ρ 10) (get ρ 12) (get ρ 16) (get ρ 49) (get ρ 50):=zr
@[go_sem] theorem Wq:rc D b Cf ρ s= some (.normal,[(8,.nilp),(9,(.int .i64 21))],s):=zr
@[go_sem] theorem WR:rc D b B7 ρ s=(fun v10 v12 v49 v50=>(aa (ab .add v50 (.int .i64 1)) fun x0=>some (.normal,[(10,v10),(12,v12),(49,v49),(50,x0)],s):OR)) (get ρ 10) (get ρ 12) (get ρ 49) (get ρ 50):=zr
@[go_sem] theorem Xj:rc D b Dj ρ s=(fun v12=>(aa (rf D bl [v12] s) fun x0=>some (.normal,[(12,v12)],x0.2):OR)) (get ρ 12):=zr
@[go_sem] theorem Wk:rc D b E6 ρ s=(fun v12=>(some (.normal,[(8,v12),(9,(.int .i64 0))],s):OR)) (get ρ 12):=zr
@[go_sem] theorem ac3:rc D b Kt ρ s=(fun v0=>(let x0:V:=.ptr (St.fresh s false) [] 48; let s0:St:=St.new s false (.agg 48 (List.replicate 49 (.agg 42 [(.int .i64 0),(.int .i64 0),(.int .i64 0)]))); some (.normal,[(0,v0),(2,x0)],s0):OR)) (get ρ 0):=zr
@[go_sem] theorem YB:rc D b IN ρ s=(fun v0 v2=>(aa (ak (List.replicate 49 (.agg 42 [(.int .i64 0),(.int .i64 0),(.int .i64 0)])) []) fun x0=>let x1:V:=.ptr (St.fresh s false) [] 48; let s1:St:=St.new s false (.agg 48 (List.replicate 49 (.agg 42 [(.int .i64 0),(.int .i64 0),(.int .i64 0)]))); aa (stv b s1 48 (.agg 48 x0) x1) fun s2=>some (.normal,[(0,v0),(2,v2),(3,x1)],s2):OR)) (get ρ 0) (get ρ 2):=zr
@[go_sem] theorem acu:rc D b OJ ρ s=(fun v0 v2 v3=>(some (.normal,[(0,v0),(2,v2),(3,v3),(4,(.int .i64 0))],s):OR)) (get ρ 0) (get ρ 2) (get ρ 3):=zr
@[go_sem] theorem aaJ:rc D b QY ρ s=(fun v0 v2 v3 v4=>(aa (ab .lss v4 v0) fun x0=>an x0 true (aa (ab .lss v4 (.int .i64 49)) fun x1=>some (.normal,[(0,v0),(2,v2),(3,v3),(4,v4),(12,x1)],s)) (some (.normal,[(0,v0),(2,v2),(3,v3),(4,v4),(12,(.bool false))],s)) (none):OR)) (get ρ 0) (get ρ 2) (get ρ 3) (get ρ 4):=zr
@[go_sem] theorem Yt:rc D b QV ρ s=(fun v0 v2 v3 v4=>(aa (ab .rem v4 (.int .i64 4)) fun x0=>aa (ab .add (.int .i64 1) x0) fun x1=>aa (ab .add (.int .i64 20) v4) fun x2=>aa (ak [(.int .i64 0),(.int .i64 0),(.int .i64 0)] [(0,x1),(1,v4),(2,x2)]) fun x3=>aa (aY 48 49 42 v3 v4) fun x4=>aa (stv b s 42 (.agg 42 x3) x4) fun s5=>some (.normal,[(0,v0),(2,v2),(3,v3),(4,v4)],s5):OR)) (get ρ 0) (get ρ 2) (get ρ 3) (get ρ 4):=zr
@[go_sem] theorem abR:rc D b Q2 ρ s=(fun v0 v2 v3 v4=>(aa (ab .add v4 (.int .i64 1)) fun x0=>some (.normal,[(0,v0),(2,v2),(3,v3),(4,x0)],s):OR)) (get ρ 0) (get ρ 2) (get ρ 3) (get ρ 4):=zr
@[go_sem] theorem afB:rc D b OW ρ s=(fun v2 v3=>(aa (ldv s 48 v3) fun x0=>aa (stv b s 48 x0 v2) fun s1=>some (.normal,[(2,v2)],s1):OR)) (get ρ 2) (get ρ 3):=zr
@[go_sem] theorem abV:rc D b Jm ρ s=(fun v0 v1 v2 v3=>(if V.ok v2 && aq false v2 then let x0:V:=.ptr (St.fresh s false) [] (V.tag v2); let s0:St:=St.new s false v2; some (.normal,[(0,v0),(1,v1),(3,v3),(6,x0)],s0) else none:OR)) (get ρ 0) (get ρ 1) (get ρ 2) (get ρ 3):=zr
@[go_sem] theorem aed:rc D b LD ρ s=(fun v0 v1 v3 v6=>(aa (ldv s 44 v6) fun x0=>aa (ak [.nilp,.nilp,(.agg 44 [(.int .i64 0),(.int .i64 0),(.int .i64 0),(.int .i64 0)]),(.int .i64 0),.nils,(.int .i64 0),(.agg 48 (List.replicate 49 (.agg 42 [(.int .i64 0),(.int .i64 0),(.int .i64 0)]))),(.agg 50 (List.replicate 8 (.int .i64 0)))] [(0,v0),(1,v1),(2,x0),(3,v3)]) fun x1=>if V.ok (.agg 61 x1) && aq true (.agg 61 x1) then let x2:V:=.ptr (St.fresh s true) [] (V.tag (.agg 61 x1)); let s2:St:=St.new s true (.agg 61 x1); some (.normal,[(8,x2)],s2) else none:OR)) (get ρ 0) (get ρ 1) (get ρ 3) (get ρ 6):=zr
@[go_sem] theorem agy:rc D b KA ρ s= let x0:V:=.ptr (St.fresh s false) [] 44; let s0:St:=St.new s false (.agg 44 [(.int .i64 0),(.int .i64 0),(.int .i64 0),(.int .i64 0)]); some (.normal,[(0,x0)],s0):=zr
@[go_sem] theorem abu:rc D b Pw ρ s=(fun v0=>(aa (ak [(.int .i64 0),(.int .i64 0),(.int .i64 0),(.int .i64 0)] [(0,(.int .i64 1)),(1,(.int .i64 17)),(2,(.int .i64 0)),(3,(.int .i64 1))]) fun x0=>aa (stv b s 44 (.agg 44 x0) v0) fun s1=>some (.normal,[(0,v0)],s1):OR)) (get ρ 0):=zr
@[go_sem] theorem aej:rc D b N4 ρ s=(fun v0 v1 v2 v3=>(some (.normal,[(0,v0),(1,v1),(2,v2),(3,v3)],s):OR)) (get ρ 0) (get ρ 1) (get ρ 2) (get ρ 3):=zr
@[go_sem] theorem aaY:rc D b KD ρ s=(fun v0 v1 v2 v3=>(aa (rf D cd [v0,v1] s) fun x0=>some (.normal,[(0,v0),(1,v1),(2,v2),(3,v3),(9,x0.1)],x0.2):OR)) (get ρ 0) (get ρ 1) (get ρ 2) (get ρ 3):=zr
@[go_sem] theorem acd:rc D b P3 ρ s=(fun v0 v1 v2 v3 v9=>(aa (ab .eql v9 (.int .i64 1)) fun x0=>some (.normal,[(0,v0),(1,v1),(2,v2),(3,v3),(9,v9),(15,x0)],s):OR)) (get ρ 0) (get ρ 1) (get ρ 2) (get ρ 3) (get ρ 9):=zr
@[go_sem] theorem abd:rc D b Ja ρ s=(fun v0 v1 v2 v3 v9=>(aa (ab .lss v2 (.int .i64 0)) fun x0=>some (.normal,[(0,v0),(1,v1),(2,v2),(3,v3),(9,v9),(15,x0)],s):OR)) (get ρ 0) (get ρ 1) (get ρ 2) (get ρ 3) (get ρ 9):=zr
@[go_sem] theorem aaz:rc D b Jx ρ s=(fun v0 v1 v2 v3 v9=>(aa (ab .geq v2 (.int .i64 8)) fun x0=>some (.normal,[(0,v0),(1,v1),(2,v2),(3,v3),(9,v9),(15,x0)],s):OR)) (get ρ 0) (get ρ 1) (get ρ 2) (get ρ 3) (get ρ 9):=zr
@[go_sem] theorem adH:rc D b It ρ s= some (.normal,[(8,(.int .i64 1))],s):=zr
@[go_sem] theorem ae2:rc D b N7 ρ s=(fun v0 v1 v2 v3 v9=>(aa (ab .neq v9 (.int .i64 0)) fun x0=>some (.normal,[(0,v0),(1,v1),(2,v2),(3,v3),(9,v9),(22,x0)],s):OR)) (get ρ 0) (get ρ 1) (get ρ 2) (get ρ 3) (get ρ 9):=zr
@[go_sem] theorem aaP:rc D b NY ρ s=(fun v9=>(some (.normal,[(8,v9)],s):OR)) (get ρ 9):=zr
@[go_sem] theorem abO:rc D b M6 ρ s=(fun v0 v1 v2 v3=>(aa (rf D bR [v0,v1] s) fun x0=>some (.normal,[(0,v0),(1,v1),(2,v2),(3,v3),(26,x0.1)],x0.2):OR)) (get ρ 0) (get ρ 1) (get ρ 2) (get ρ 3):=zr
@[go_sem] theorem ZS:rc D b KH ρ s=(fun v0 v1 v2 v3=>(aa (ai v0) fun x0=>aa (ae 43 0 1 x0) fun x1=>aa (ldv s 1 x1) fun x2=>aa (ai v0) fun x3=>aa (ae 43 2 48 x3) fun x4=>aa (aY 48 49 42 x4 v1) fun x5=>aa (ae 42 2 10 x5) fun x6=>aa (ldv s 10 x6) fun x7=>aa (rf D aV [x2,x7,v2,v3] s) fun x8=>some (.normal,[(8,x8.1)],x8.2):OR)) (get ρ 0) (get ρ 1) (get ρ 2) (get ρ 3):=zd
@[go_sem] theorem XR:rc D b Cr ρ s=(fun v0 v1 v2 v3=>(aa (ai v0) fun x0=>aa (ae 43 1 1 x0) fun x1=>aa (ldv s 1 x1) fun x2=>aa (rf D bI [x2] s) fun x3=>aa (ab .eql x3.1 (.int .i64 0)) fun x4=>some (.normal,[(0,v0),(1,v1),(2,v2),(3,v3),(44,x4)],x3.2):OR)) (get ρ 0) (get ρ 1) (get ρ 2) (get ρ 3):=zr
@[go_sem] theorem WH:rc D b Eh ρ s= some (.normal,[(8,(.int .i64 10))],s):=zr
@[go_sem] theorem WD:rc D b Eg ρ s=(fun v0 v1 v2 v3=>(aa (ai v0) fun x0=>aa (ae 43 0 1 x0) fun x1=>aa (ldv s 1 x1) fun x2=>aa (ai v0) fun x3=>aa (ae 43 2 48 x3) fun x4=>aa (aY 48 49 42 x4 v1) fun x5=>aa (ae 42 2 10 x5) fun x6=>aa (ldv s 10 x6) fun x7=>aa (ix D (bc b [x2,x7]) b gD [x2,x7] s) fun x8=>aa (aF 0 x8) fun x9=>aa (aF 1 x8) fun x10=>let x11:V:=.ptr (St.fresh s false) [] 24; let s11:St:=St.new s false (.agg 24 (List.replicate 8 (.int .u64 0))); aa (stv b s11 24 x9 x11) fun s12=>some (.normal,[(0,v0),(1,v1),(2,v2),(3,v3),(9,x10),(10,x11)],s12):OR)) (get ρ 0) (get ρ 1) (get ρ 2) (get ρ 3):=zd
@[go_sem] theorem Xr:rc D b Cy ρ s=(fun v0 v1 v2 v3 v9 v10=>(aa (ab .neq v9 (.int .i64 0)) fun x0=>some (.normal,[(0,v0),(1,v1),(2,v2),(3,v3),(9,v9),(10,v10),(67,x0)],s):OR)) (get ρ 0) (get ρ 1) (get ρ 2) (get ρ 3) (get ρ 9) (get ρ 10):=zr
@[go_sem] theorem XH:rc D b Du ρ s=(fun v9=>(some (.normal,[(8,v9)],s):OR)) (get ρ 9):=zr
@[go_sem] theorem W9:rc D b EE ρ s=(fun v0 v1 v2 v3 v10=>(aa (aY 24 8 18 v10 v2) fun x0=>aa (stv b s 18 v3 x0) fun s1=>some (.normal,[(0,v0),(1,v1),(10,v10)],s1):OR)) (get ρ 0) (get ρ 1) (get ρ 2) (get ρ 3) (get ρ 10):=zr
@[go_sem] theorem WV:rc D b Eu ρ s=(fun v0 v1 v10=>(aa (ldv s 24 v10) fun x0=>aa (rf D cC [v0,x0] s) fun x1=>aa (aF 0 x1.1) fun x2=>aa (aF 1 x1.1) fun x3=>some (.normal,[(0,v0),(1,v1),(9,x3),(11,x2)],x1.2):OR)) (get ρ 0) (get ρ 1) (get ρ 10):=zr
@[go_sem] theorem WX:rc D b Dm ρ s=(fun v0 v1 v9 v11=>(aa (ab .neq v9 (.int .i64 0)) fun x0=>some (.normal,[(0,v0),(1,v1),(9,v9),(11,v11),(79,x0)],s):OR)) (get ρ 0) (get ρ 1) (get ρ 9) (get ρ 11):=zr
@[go_sem] theorem W0:rc D b Cd ρ s=(fun v9=>(some (.normal,[(8,v9)],s):OR)) (get ρ 9):=zr
@[go_sem] theorem Xk:rc D b DH ρ s=(fun v0 v1 v11=>(aa (ai v0) fun x0=>aa (ae 43 2 48 x0) fun x1=>aa (aY 48 49 42 x1 v1) fun x2=>aa (ae 42 2 10 x2) fun x3=>aa (stv b s 10 v11 x3) fun s4=>some (.normal,[],s4):OR)) (get ρ 0) (get ρ 1) (get ρ 11):=zr
@[go_sem] theorem Xv:rc D b D0 ρ s= some (.normal,[(8,(.int .i64 0))],s):=zr
@[go_sem] theorem afM:rc D b P6 ρ s=(fun v0 v1=>(some (.normal,[(0,v0),(1,v1)],s):OR)) (get ρ 0) (get ρ 1):=zr
@[go_sem] theorem acY:rc D b Li ρ s=(fun v0 v1=>(aa (rf D dg [v0,v1] s) fun x0=>aa (aF 0 x0.1) fun x1=>aa (aF 1 x0.1) fun x2=>aa (aF 2 x0.1) fun x3=>some (.normal,[(0,v0),(1,v1),(6,x1),(7,x2),(8,x3)],x0.2):OR)) (get ρ 0) (get ρ 1):=zr
@[go_sem] theorem aaT:rc D b JV ρ s=(fun v0 v1 v6 v7 v8=>(aa (ab .neq v8 (.int .i64 0)) fun x0=>some (.normal,[(0,v0),(1,v1),(6,v6),(7,v7),(8,v8),(18,x0)],s):OR)) (get ρ 0) (get ρ 1) (get ρ 6) (get ρ 7) (get ρ 8):=zr
@[go_sem] theorem YH:rc D b K1 ρ s=(fun v8=>(some (.normal,[(4,(.int .i64 0)),(5,v8)],s):OR)) (get ρ 8):=zr
@[go_sem] theorem aai:rc D b MT ρ s=(fun v0 v1 v6 v7=>(aa (ak (List.replicate 8 (.int .u64 0)) []) fun x0=>aa (rf D cC [v0,(.agg 24 x0)] s) fun x1=>aa (aF 0 x1.1) fun x2=>aa (aF 1 x1.1) fun x3=>some (.normal,[(0,v0),(1,v1),(6,v6),(7,v7),(8,x3),(9,x2)],x1.2):OR)) (get ρ 0) (get ρ 1) (get ρ 6) (get ρ 7):=zr
@[go_sem] theorem ZQ:rc D b Jj ρ s=(fun v0 v1 v6 v7 v8 v9=>(aa (ab .neq v8 (.int .i64 0)) fun x0=>some (.normal,[(0,v0),(1,v1),(6,v6),(7,v7),(8,v8),(9,v9),(27,x0)],s):OR)) (get ρ 0) (get ρ 1) (get ρ 6) (get ρ 7) (get ρ 8) (get ρ 9):=zr
@[go_sem] theorem Yi:rc D b Om ρ s=(fun v8=>(some (.normal,[(4,(.int .i64 0)),(5,v8)],s):OR)) (get ρ 8):=zr
@[go_sem] theorem ac5:rc D b PZ ρ s=(fun v0 v1 v6 v7 v9=>(aa (ak [(.int .i64 0),(.int .i64 0),(.int .i64 0)] [(0,v1),(1,v7),(2,v9)]) fun x0=>aa (ai v0) fun x1=>aa (ae 43 2 48 x1) fun x2=>aa (aY 48 49 42 x2 v6) fun x3=>aa (stv b s 42 (.agg 42 x0) x3) fun s4=>some (.normal,[(6,v6)],s4):OR)) (get ρ 0) (get ρ 1) (get ρ 6) (get ρ 7) (get ρ 9):=zr
@[go_sem] theorem afd:rc D b IA ρ s=(fun v6=>(some (.normal,[(4,v6),(5,(.int .i64 0))],s):OR)) (get ρ 6):=zr
@[go_sem] theorem agD:rc D b PU ρ s=(fun v0 v1=>(some (.normal,[(0,v0),(1,v1)],s):OR)) (get ρ 0) (get ρ 1):=zr
@[go_sem] theorem afx:rc D b PV ρ s=(fun v0 v1=>(aa (rf D cd [v0,v1] s) fun x0=>some (.normal,[(0,v0),(1,v1),(5,x0.1)],x0.2):OR)) (get ρ 0) (get ρ 1):=zr
@[go_sem] theorem aeJ:rc D b Mn ρ s=(fun v0 v1 v5=>(aa (ab .neq v5 (.int .i64 0)) fun x0=>some (.normal,[(0,v0),(1,v1),(5,v5),(10,x0)],s):OR)) (get ρ 0) (get ρ 1) (get ρ 5):=zr
@[go_sem] theorem agp:rc D b Ia ρ s=(fun v5=>(some (.normal,[(4,v5)],s):OR)) (get ρ 5):=zr
@[go_sem] theorem abz:rc D b I0 ρ s=(fun v0 v1=>(aa (rf D bR [v0,v1] s) fun x0=>some (.normal,[(0,v0),(1,v1),(14,x0.1)],x0.2):OR)) (get ρ 0) (get ρ 1):=zr
@[go_sem] theorem aab:rc D b PJ ρ s=(fun v0 v1=>(aa (ai v0) fun x0=>aa (ae 43 1 1 x0) fun x1=>aa (ldv s 1 x1) fun x2=>aa (ai v0) fun x3=>aa (ae 43 2 48 x3) fun x4=>aa (aY 48 49 42 x4 v1) fun x5=>aa (ae 42 2 10 x5) fun x6=>aa (ldv s 10 x6) fun x7=>aa (rf D ck [x2,x7] s) fun x8=>some (.normal,[(0,v0),(1,v1)],x8.2):OR)) (get ρ 0) (get ρ 1):=zd
@[go_sem] theorem Yw:rc D b J5 ρ s=(fun v0 v1=>(aa (ai v0) fun x0=>aa (ae 43 2 48 x0) fun x1=>aa (aY 48 49 42 x1 v1) fun x2=>aa (ldv s 42 x2) fun x3=>aa (ix D (bc b [x3]) b kS [x3] s) fun x4=>aa (aF 0 x4) fun x5=>aa (aF 1 x4) fun _x6=>aa (ai v0) fun x7=>aa (ae 43 2 48 x7) fun x8=>aa (aY 48 49 42 x8 v1) fun x9=>aa (stv b s 42 x5 x9) fun s10=>some (.normal,[],s10):OR)) (get ρ 0) (get ρ 1):=zd
@[go_sem] theorem ab5:rc D b MY ρ s= some (.normal,[(4,(.int .i64 0))],s):=zr
@[go_sem] theorem adr:rc D b QD ρ s=(fun v0=>(some (.normal,[(0,v0)],s):OR)) (get ρ 0):=zr
@[go_sem] theorem abe:rc D b N8 ρ s=(fun v0=>(some (.normal,[(0,v0),(3,(.int .i64 0))],s):OR)) (get ρ 0):=zr
@[go_sem] theorem aen:rc D b K2 ρ s=(fun v0 v3=>(aa (ai v0) fun x0=>aa (ae 80 2 78 x0) fun x1=>aa (ldv s 78 x1) fun x2=>some (.normal,[(3,v3),(9,x2),(10,(.int .i64 0))],s):OR)) (get ρ 0) (get ρ 3):=zr
@[go_sem] theorem abS:rc D b Ql ρ s=(fun v3 v9 v10=>(aa (ab .lss v10 (.int .i64 16)) fun x0=>some (.normal,[(3,v3),(9,v9),(10,v10),(11,x0)],s):OR)) (get ρ 3) (get ρ 9) (get ρ 10):=zr
@[go_sem] theorem acv:rc D b ID ρ s=(fun v3 v9 v10=>(aa (iq 78 16 v9 v10) fun x0=>some (.normal,[(3,v3),(5,x0),(9,v9),(10,v10)],s):OR)) (get ρ 3) (get ρ 9) (get ρ 10):=zr
@[go_sem] theorem aaV:rc D b Kz ρ s=(fun v3 v5 v9 v10=>(aa (rf D dt [v5] s) fun x0=>aa (ab .add v3 x0.1) fun x1=>some (.normal,[(3,x1),(9,v9),(10,v10)],x0.2):OR)) (get ρ 3) (get ρ 5) (get ρ 9) (get ρ 10):=zr
@[go_sem] theorem YU:rc D b Pu ρ s=(fun v3 v9 v10=>(aa (ab .add v10 (.int .i64 1)) fun x0=>some (.normal,[(3,v3),(9,v9),(10,x0)],s):OR)) (get ρ 3) (get ρ 9) (get ρ 10):=zr
@[go_sem] theorem aa6:rc D b OH ρ s=(fun v3=>(some (.normal,[(2,v3)],s):OR)) (get ρ 3):=zr
@[go_sem] theorem XZ:rc D b Qv ρ s=(fun v0=>(some (.normal,[(0,v0)],s):OR)) (get ρ 0):=zr
@[go_sem] theorem acH:rc D b Qh ρ s=(fun v0=>(aa (ai v0) fun x0=>aa (ae 80 2 78 x0) fun x1=>aa (ldv s 78 x1) fun x2=>some (.normal,[(0,v0),(10,x2),(11,(.int .i64 0))],s):OR)) (get ρ 0):=zr
@[go_sem] theorem afF:rc D b OA ρ s=(fun v0 v10 v11=>(aa (ab .lss v11 (.int .i64 16)) fun x0=>some (.normal,[(0,v0),(10,v10),(11,v11),(12,x0)],s):OR)) (get ρ 0) (get ρ 10) (get ρ 11):=zr
@[go_sem] theorem aam:rc D b JJ ρ s=(fun v0 v10 v11=>(aa (iq 78 16 v10 v11) fun x0=>some (.normal,[(0,v0),(4,v11),(5,x0),(10,v10),(11,v11)],s):OR)) (get ρ 0) (get ρ 10) (get ρ 11):=zr
@[go_sem] theorem adz:rc D b NW ρ s=(fun v0 v4 v5 v10 v11=>(aa (ab .neq v5 (.int .u64 0)) fun x0=>some (.normal,[(0,v0),(4,v4),(5,v5),(10,v10),(11,v11),(16,x0)],s):OR)) (get ρ 0) (get ρ 4) (get ρ 5) (get ρ 10) (get ρ 11):=zr
@[go_sem] theorem YG:rc D b Qx ρ s=(fun v0 v4 v5=>(aa (ab .mul (.int .i64 64) v4) fun x0=>aa (rf D cB [v5] s) fun x1=>aa (ab .add x0 x1.1) fun x2=>some (.normal,[(0,v0),(6,x2)],x1.2):OR)) (get ρ 0) (get ρ 4) (get ρ 5):=zr
@[go_sem] theorem aex:rc D b Ni ρ s=(fun v0 v6=>(aa (ai v0) fun x0=>aa (ae 80 2 78 x0) fun x1=>aa (rf D aT [x1,v6] s) fun x2=>some (.normal,[(6,v6)],x2.2):OR)) (get ρ 0) (get ρ 6):=zr
@[go_sem] theorem Yf:rc D b I2 ρ s=(fun v6=>(some (.normal,[(2,v6),(3,(.int .i64 0))],s):OR)) (get ρ 6):=zr
@[go_sem] theorem aa1:rc D b Qf ρ s=(fun v0 v10 v11=>(aa (ab .add v11 (.int .i64 1)) fun x0=>some (.normal,[(0,v0),(10,v10),(11,x0)],s):OR)) (get ρ 0) (get ρ 10) (get ρ 11):=zr
@[go_sem] theorem agk:rc D b Lv ρ s= some (.normal,[(2,(.int .i64 0)),(3,(.int .i64 10))],s):=zr
@[go_sem] theorem Zh:rc D b Mh ρ s=(fun v0=>(some (.normal,[(0,v0)],s):OR)) (get ρ 0):=zr
@[go_sem] theorem afL:rc D b K4 ρ s=(fun v0=>(aa (ai v0) fun x0=>aa (ae 43 6 0 x0) fun x1=>aa (ldv s 0 x1) fun x2=>some (.normal,[(0,v0),(6,x2)],s):OR)) (get ρ 0):=zr
@[go_sem] theorem aaN:rc D b P1 ρ s= some (.normal,[(2,(.int .i64 3))],s):=zr
@[go_sem] theorem aaU:rc D b I4 ρ s=(fun v0=>(aa (ai v0) fun x0=>aa (ae 43 2 48 x0) fun x1=>aa (ldv s 48 x1) fun x2=>aa (ai v0) fun x3=>aa (ae 43 5 48 x3) fun x4=>aa (stv b s 48 x2 x4) fun s5=>aa (ai v0) fun x6=>aa (ae 43 6 0 x6) fun x7=>aa (stv b s5 0 (.bool true) x7) fun s8=>some (.normal,[(0,v0)],s8):OR)) (get ρ 0):=zr
@[go_sem] theorem afe:rc D b KR ρ s=(fun v0=>(aa (rf D bl [v0] s) fun x0=>some (.normal,[],x0.2):OR)) (get ρ 0):=zr
@[go_sem] theorem Ym:rc D b Lj ρ s= some (.normal,[(2,(.int .i64 0))],s):=zr
@[go_sem] theorem adR:rc D b LG ρ s=(fun v0 v1=>(some (.normal,[(0,v0),(1,v1)],s):OR)) (get ρ 0) (get ρ 1):=zr
@[go_sem] theorem aaZ:rc D b QF ρ s=(fun v0 v1=>(aa (ai v0) fun x0=>aa (ae 61 0 1 x0) fun x1=>aa (ldv s 1 x1) fun x2=>aa (rf D cQ [x2,(.int .i64 0),v1] s) fun x3=>some (.normal,[(4,x3.1)],x3.2):OR)) (get ρ 0) (get ρ 1):=zr
@[go_sem] theorem abK:rc D b Qr ρ s=(fun v0 v1=>(if V.ok v0 && aq false v0 then let x0:V:=.ptr (St.fresh s false) [] (V.tag v0); let s0:St:=St.new s false v0; if V.ok v1 && aq false v1 then let x1:V:=.ptr (St.fresh s0 false) [] (V.tag v1); let s1:St:=St.new s0 false v1; some (.normal,[(2,x0),(3,x1)],s1) else none else none:OR)) (get ρ 0) (get ρ 1):=zr
@[go_sem] theorem YJ:rc D b M8 ρ s=(fun v2 v3=>(some (.normal,[(2,v2),(3,v3),(5,.nils)],s):OR)) (get ρ 2) (get ρ 3):=zr
@[go_sem] theorem afu:rc D b Mj ρ s=(fun v2 v3 v5=>(some (.normal,[(2,v2),(3,v3),(5,v5),(7,(.int .i64 0))],s):OR)) (get ρ 2) (get ρ 3) (get ρ 5):=zr
@[go_sem] theorem ZT:rc D b N2 ρ s=(fun v2 v3 v5 v7=>(aa (ab .lss v7 (.int .i64 7)) fun x0=>some (.normal,[(2,v2),(3,v3),(5,v5),(7,v7),(8,x0)],s):OR)) (get ρ 2) (get ρ 3) (get ρ 5) (get ρ 7):=zr
@[go_sem] theorem aeb:rc D b Od ρ s=(fun v2 v3 v5 v7=>(some (.normal,[(2,v2),(3,v3),(5,v5),(6,v7),(7,v7)],s):OR)) (get ρ 2) (get ρ 3) (get ρ 5) (get ρ 7):=zr
@[go_sem] theorem aeS:rc D b OS ρ s=(fun v2 v3 v5 v6 v7=>(aa (ab .mul (.int .i64 7) v6) fun x0=>aa (ab .mul (.int .i64 7) v6) fun x1=>aa (ab .add x1 (.int .i64 7)) fun x2=>aa (jW s 48 49 42 (some x0) (some x2) none v2) fun x3=>aa (sm 7 42 x3) fun x4=>aa (rY s 94 7 42 48 x4) fun x5=>aa (ab .mul (.int .i64 7) v6) fun x6=>aa (ab .mul (.int .i64 7) v6) fun x7=>aa (ab .add x7 (.int .i64 7)) fun x8=>aa (jW s 48 49 42 (some x6) (some x8) none v3) fun x9=>aa (sm 7 42 x9) fun x10=>aa (rY s 94 7 42 48 x10) fun x11=>aa (eqv true 94 x5 x11) fun x12=>some (.normal,[(2,v2),(3,v3),(5,v5),(6,v6),(7,v7),(26,x12)],s):OR)) (get ρ 2) (get ρ 3) (get ρ 5) (get ρ 6) (get ρ 7):=zd
@[go_sem] theorem abH:rc D b Ip ρ s=(fun v2 v3 v5 v6 v7=>(aa (m8 false 38 10 1 (.int .i64 0) s [(0,v6)]) fun x0=>aa (aG b true 38 10 v5 x0.1 x0.2) fun x1=>some (.normal,[(2,v2),(3,v3),(5,x1.1),(7,v7)],x1.2):OR)) (get ρ 2) (get ρ 3) (get ρ 5) (get ρ 6) (get ρ 7):=zr
@[go_sem] theorem XV:rc D b NO ρ s=(fun v2 v3 v5 v7=>(aa (ab .add v7 (.int .i64 1)) fun x0=>some (.normal,[(2,v2),(3,v3),(5,v5),(7,x0)],s):OR)) (get ρ 2) (get ρ 3) (get ρ 5) (get ρ 7):=zr
@[go_sem] theorem acl:rc D b KY ρ s=(fun v5=>(some (.normal,[(4,v5)],s):OR)) (get ρ 5):=zr
@[go_sem] theorem aaq:rc D b Nn ρ s=(fun v0 v1=>(some (.normal,[(0,v0),(1,v1)],s):OR)) (get ρ 0) (get ρ 1):=zr
@[go_sem] theorem YN:rc D b Ov ρ s=(fun v0 v1=>(aa (ai v0) fun x0=>aa (ae 61 6 48 x0) fun x1=>aa (ldv s 48 x1) fun x2=>aa (rf D iS [x2,v1] s) fun x3=>aa (aF 0 x3.1) fun x4=>aa (aF 1 x3.1) fun _x5=>let x6:V:=.ptr (St.fresh x3.2 false) [] 24; let s6:St:=St.new x3.2 false (.agg 24 (List.replicate 8 (.int .u64 0))); aa (stv b s6 24 x4 x6) fun s7=>some (.normal,[(0,v0),(1,v1),(5,x6)],s7):OR)) (get ρ 0) (get ρ 1):=zr
@[go_sem] theorem aff:rc D b NE ρ s=(fun v0 v1 v5=>(aa (ldv s 24 v5) fun x0=>aa (ai v0) fun x1=>aa (ae 61 7 50 x1) fun x2=>aa (aY 50 8 10 x2 v1) fun x3=>aa (rf D dn [v0,x0,x3] s) fun x4=>some (.normal,[(4,x4.1)],x4.2):OR)) (get ρ 0) (get ρ 1) (get ρ 5):=zd
@[go_sem] theorem Zz:rc D b KM ρ s=(fun v0=>(some (.normal,[(0,v0)],s):OR)) (get ρ 0):=zr
@[go_sem] theorem aeV:rc D b OU ρ s=(fun v0=>(aa (ai v0) fun x0=>aa (ae 61 7 50 x0) fun x1=>aa (jW s 50 8 10 none (some (.int .i64 7)) none x1) fun x2=>aa (sm 7 10 x2) fun x3=>aa (rY s 60 7 10 50 x3) fun x4=>aa (rf D iU [x4] s) fun x5=>aa (aF 0 x5.1) fun x6=>aa (aF 1 x5.1) fun _x7=>let x8:V:=.ptr (St.fresh x5.2 false) [] 24; let s8:St:=St.new x5.2 false (.agg 24 (List.replicate 8 (.int .u64 0))); aa (stv b s8 24 x6 x8) fun s9=>some (.normal,[(0,v0),(5,x8)],s9):OR)) (get ρ 0):=zr
@[go_sem] theorem adN:rc D b QR ρ s=(fun v0 v5=>(aa (ldv s 24 v5) fun x0=>aa (ai v0) fun x1=>aa (ae 61 7 50 x1) fun x2=>aa (aY 50 8 10 x2 (.int .i64 7)) fun x3=>aa (rf D dn [v0,x0,x3] s) fun x4=>some (.normal,[(4,x4.1)],x4.2):OR)) (get ρ 0) (get ρ 5):=zd
@[go_sem] theorem acZ:rc D b K6 ρ s=(fun v0=>(some (.normal,[(0,v0)],s):OR)) (get ρ 0):=zr
@[go_sem] theorem aez:rc D b JS ρ s=(fun v0=>(aa (ai v0) fun x0=>aa (ae 61 0 1 x0) fun x1=>aa (ldv s 1 x1) fun x2=>aa (rf D cT [x2,(.int .i64 0)] s) fun x3=>some (.normal,[(4,x3.1)],x3.2):OR)) (get ρ 0):=zr
@[go_sem] theorem aeC:rc D b Ms ρ s=(fun v0=>(some (.normal,[(0,v0)],s):OR)) (get ρ 0):=zr
@[go_sem] theorem ad1:rc D b Jy ρ s=(fun v0=>(aa (ai v0) fun x0=>aa (ae 61 2 44 x0) fun x1=>aa (ae 44 0 10 x1) fun x2=>aa (ldv s 10 x2) fun x3=>aa (ab .add x3 (.int .i64 1)) fun x4=>aa (ai v0) fun x5=>aa (ae 61 7 50 x5) fun x6=>aa (aY 50 8 10 x6 (.int .i64 7)) fun x7=>aa (ldv s 10 x7) fun x8=>aa (ai v0) fun x9=>aa (ae 61 5 10 x9) fun x10=>aa (ldv s 10 x10) fun x11=>aa (ai v0) fun x12=>aa (ae 61 2 44 x12) fun x13=>aa (ae 44 3 10 x13) fun x14=>aa (ldv s 10 x14) fun x15=>aa (ak [(.int .i64 0),(.int .i64 0),(.int .i64 0),(.int .i64 0)] [(0,x4),(1,x8),(2,x11),(3,x15)]) fun x16=>let x17:V:=.ptr (St.fresh s false) [] 44; let s17:St:=St.new s false (.agg 44 [(.int .i64 0),(.int .i64 0),(.int .i64 0),(.int .i64 0)]); aa (stv b s17 44 (.agg 44 x16) x17) fun s18=>some (.normal,[(0,v0),(5,x17)],s18):OR)) (get ρ 0):=zd
@[go_sem] theorem ab0:rc D b MR ρ s=(fun v0 v5=>(aa (ai v0) fun x0=>aa (ae 61 3 10 x0) fun x1=>aa (ldv s 10 x1) fun x2=>aa (ab .sub (.int .i64 1) x2) fun x3=>some (.normal,[(0,v0),(5,v5),(6,x3)],s):OR)) (get ρ 0) (get ρ 5):=zr
@[go_sem] theorem aeX:rc D b Qo ρ s=(fun v0 v5 v6=>(aa (ai v0) fun x0=>aa (ae 61 0 1 x0) fun x1=>aa (ldv s 1 x1) fun x2=>aa (ldv s 44 v5) fun x3=>aa (rf D jG [x2,(.int .i64 0),v6,x3] s) fun x4=>some (.normal,[(0,v0),(5,v5),(6,v6),(7,x4.1)],x4.2):OR)) (get ρ 0) (get ρ 5) (get ρ 6):=zd
@[go_sem] theorem abj:rc D b Qt ρ s=(fun v0 v5 v6 v7=>(aa (ab .neq v7 (.int .i64 0)) fun x0=>some (.normal,[(0,v0),(5,v5),(6,v6),(7,v7),(42,x0)],s):OR)) (get ρ 0) (get ρ 5) (get ρ 6) (get ρ 7):=zr
@[go_sem] theorem YV:rc D b ME ρ s=(fun v7=>(some (.normal,[(4,v7)],s):OR)) (get ρ 7):=zr
@[go_sem] theorem acz:rc D b MZ ρ s=(fun v0 v5 v6=>(aa (ai v0) fun x0=>aa (ae 61 1 1 x0) fun x1=>aa (ldv s 1 x1) fun x2=>aa (ai v0) fun x3=>aa (ae 61 7 50 x3) fun x4=>aa (ldv s 50 x4) fun x5=>aa (rf D dM [x2,x5] s) fun x6=>some (.normal,[(0,v0),(5,v5),(6,v6)],x6.2):OR)) (get ρ 0) (get ρ 5) (get ρ 6):=zd
@[go_sem] theorem aeo:rc D b J7 ρ s=(fun v0 v5 v6=>(aa (ldv s 44 v5) fun x0=>aa (ai v0) fun x1=>aa (ae 61 2 44 x1) fun x2=>aa (stv b s 44 x0 x2) fun s3=>aa (ai v0) fun x4=>aa (ae 61 3 10 x4) fun x5=>aa (stv b s3 10 v6 x5) fun s6=>some (.normal,[],s6):OR)) (get ρ 0) (get ρ 5) (get ρ 6):=zr
@[go_sem] theorem agb:rc D b Lz ρ s= some (.normal,[(4,(.int .i64 0))],s):=zr
@[go_sem] theorem aa5:rc D b PO ρ s=(fun v0=>(some (.normal,[(0,v0)],s):OR)) (get ρ 0):=zr
@[go_sem] theorem ags:rc D b LH ρ s=(fun v0=>(aa (ai v0) fun x0=>aa (ae 43 6 0 x0) fun x1=>aa (ldv s 0 x1) fun x2=>aa (vun .not x2) fun x3=>some (.normal,[(0,v0),(7,x3)],s):OR)) (get ρ 0):=zr
@[go_sem] theorem ad5:rc D b JB ρ s= some (.normal,[(2,(.int .i64 3))],s):=zr
@[go_sem] theorem aac:rc D b OV ρ s=(fun v0=>(aa (rf D bM [v0] s) fun x0=>some (.normal,[],x0.2):OR)) (get ρ 0):=zr
@[go_sem] theorem aag:rc D b MU ρ s= some (.normal,[(2,(.int .i64 0))],s):=zr
@[go_sem] theorem ZL:rc D b MS ρ s=(fun v0 v1=>(some (.normal,[(0,v0),(1,v1)],s):OR)) (get ρ 0) (get ρ 1):=zr
@[go_sem] theorem Zn:rc D b KN ρ s=(fun v0 v1=>(aa (ab .lss v1 (.int .i64 0)) fun x0=>some (.normal,[(0,v0),(1,v1),(5,x0)],s):OR)) (get ρ 0) (get ρ 1):=zr
@[go_sem] theorem Yh:rc D b QH ρ s=(fun v0 v1=>(aa (ab .geq v1 (.int .i64 49)) fun x0=>some (.normal,[(0,v0),(1,v1),(5,x0)],s):OR)) (get ρ 0) (get ρ 1):=zr
@[go_sem] theorem adj:rc D b Qz ρ s= some (.normal,[(4,(.int .i64 1))],s):=zr
@[go_sem] theorem abf:rc D b Py ρ s=(fun v0 v1=>(aa (ai v0) fun x0=>aa (ae 43 2 48 x0) fun x1=>aa (aY 48 49 42 x1 v1) fun x2=>aa (ae 42 0 10 x2) fun x3=>aa (ldv s 10 x3) fun x4=>aa (ab .eql x4 (.int .i64 0)) fun x5=>some (.normal,[(10,x5)],s):OR)) (get ρ 0) (get ρ 1):=zr
@[go_sem] theorem aa4:rc D b Lt ρ s= some (.normal,[(4,(.int .i64 30))],s):=zr
@[go_sem] theorem Zu:rc D b Pt ρ s= some (.normal,[(4,(.int .i64 0))],s):=zr
@[go_sem] theorem adB:rc D b Oj ρ s=(fun v0 v1=>(let x0:V:=.ptr (St.fresh s false) [] 24; let s0:St:=St.new s false (.agg 24 (List.replicate 8 (.int .u64 0))); some (.normal,[(0,v0),(1,v1),(4,x0)],s0):OR)) (get ρ 0) (get ρ 1):=zr
@[go_sem] theorem agB:rc D b Ke ρ s=(fun v0 v1 v4=>(aa (rf D cv [v0,v1] s) fun x0=>some (.normal,[(0,v0),(4,v4),(6,x0.1)],x0.2):OR)) (get ρ 0) (get ρ 1) (get ρ 4):=zr
@[go_sem] theorem abl:rc D b Q9 ρ s=(fun v0 v4 v6=>(aa (eqv false 1 v6 .nilp) fun x0=>some (.normal,[(0,v0),(4,v4),(6,v6),(10,x0)],s):OR)) (get ρ 0) (get ρ 4) (get ρ 6):=zr
@[go_sem] theorem YA:rc D b PH ρ s=(fun v4=>(aa (ak (List.replicate 8 (.int .u64 0)) []) fun x0=>aa (stv b s 24 (.agg 24 x0) v4) fun s1=>some (.normal,[(4,v4),(5,(.int .i64 1))],s1):OR)) (get ρ 4):=zr
@[go_sem] theorem ZV:rc D b NH ρ s=(fun v0 v4 v6=>(aa (ai v0) fun x0=>aa (ae 59 1 0 x0) fun x1=>aa (ldv s 0 x1) fun x2=>some (.normal,[(4,v4),(6,v6),(14,x2)],s):OR)) (get ρ 0) (get ρ 4) (get ρ 6):=zr
@[go_sem] theorem afI:rc D b Qj ρ s=(fun v4=>(aa (ak (List.replicate 8 (.int .u64 0)) []) fun x0=>aa (stv b s 24 (.agg 24 x0) v4) fun s1=>some (.normal,[(4,v4),(5,(.int .i64 4))],s1):OR)) (get ρ 4):=zr
@[go_sem] theorem aaB:rc D b Ji ρ s=(fun v4 v6=>(aa (ai v6) fun x0=>aa (ae 55 0 24 x0) fun x1=>aa (ldv s 24 x1) fun x2=>aa (stv b s 24 x2 v4) fun s3=>some (.normal,[(4,v4),(5,(.int .i64 0))],s3):OR)) (get ρ 4) (get ρ 6):=zr
@[go_sem] theorem ZC:rc D b Ly ρ s=(fun v0=>(some (.normal,[(0,v0)],s):OR)) (get ρ 0):=zr
@[go_sem] theorem acL:rc D b P7 ρ s=(fun v0=>(aa (ab .lss v0 (.int .i64 64)) fun x0=>an x0 false (aa (ab .gtr v0 (.int .i64 1024)) fun x1=>some (.normal,[(0,v0),(9,x1)],s)) (some (.normal,[(0,v0),(9,(.bool true))],s)) (none):OR)) (get ρ 0):=zr
@[go_sem] theorem Zx:rc D b Nz ρ s= some (.normal,[(2,.nilp),(3,(.int .i64 1))],s):=zr
@[go_sem] theorem aax:rc D b Ir ρ s=(fun v0=>(aa (to true 57 55 (.agg 55 [(.agg 24 (List.replicate 8 (.int .u64 0))),(.agg 24 (List.replicate 8 (.int .u64 0))),.nils,(.agg 50 (List.replicate 8 (.int .i64 0)))]) s v0 v0) fun x0=>aa (ak [.nils,(.bool false),(.bool false),(.int .i64 0),(.int .i64 0)] [(0,x0.1)]) fun x1=>if V.ok (.agg 59 x1) && aq true (.agg 59 x1) then let x2:V:=.ptr (St.fresh x0.2 true) [] (V.tag (.agg 59 x1)); let s2:St:=St.new x0.2 true (.agg 59 x1); some (.normal,[(2,x2),(3,(.int .i64 0))],s2) else none:OR)) (get ρ 0):=zr
@[go_sem] theorem Ye:rc D b MN ρ s=(fun v0 v1=>(if V.ok v0 && aq false v0 then let x0:V:=.ptr (St.fresh s false) [] (V.tag v0); let s0:St:=St.new s false v0; let x1:V:=.ptr (St.fresh s0 false) [] 24; let s1:St:=St.new s0 false (.agg 24 (List.replicate 8 (.int .u64 0))); some (.normal,[(1,v1),(2,x0),(4,x1)],s1) else none:OR)) (get ρ 0) (get ρ 1):=zr
@[go_sem] theorem af2:rc D b IK ρ s=(fun v1 v2 v4=>(aa (ak (List.replicate 8 (.int .u64 0)) []) fun x0=>let x1:V:=.ptr (St.fresh s false) [] 24; let s1:St:=St.new s false (.agg 24 (List.replicate 8 (.int .u64 0))); aa (stv b s1 24 (.agg 24 x0) x1) fun s2=>some (.normal,[(1,v1),(2,v2),(4,v4),(6,x1)],s2):OR)) (get ρ 1) (get ρ 2) (get ρ 4):=zr
@[go_sem] theorem acE:rc D b Mp ρ s=(fun v1 v2 v4 v6=>(aa (ab .lss v1 (.int .i64 0)) fun x0=>an x0 false (aa (ab .geq v1 (.int .i64 7)) fun x1=>some (.normal,[(1,v1),(2,v2),(4,v4),(6,v6),(16,x1)],s)) (some (.normal,[(1,v1),(2,v2),(4,v4),(6,v6),(16,(.bool true))],s)) (none):OR)) (get ρ 1) (get ρ 2) (get ρ 4) (get ρ 6):=zr
@[go_sem] theorem acM:rc D b Nx ρ s=(fun v4 v6=>(aa (ldv s 24 v6) fun x0=>aa (stv b s 24 x0 v4) fun s1=>some (.normal,[(4,v4),(5,(.int .i64 1))],s1):OR)) (get ρ 4) (get ρ 6):=zr
@[go_sem] theorem afQ:rc D b Po ρ s=(fun v1 v2 v4 v6=>(some (.normal,[(1,v1),(2,v2),(4,v4),(6,v6),(7,(.int .i64 0))],s):OR)) (get ρ 1) (get ρ 2) (get ρ 4) (get ρ 6):=zr
@[go_sem] theorem aei:rc D b Ow ρ s=(fun v1 v2 v4 v6 v7=>(aa (ab .lss v7 (.int .i64 7)) fun x0=>some (.normal,[(1,v1),(2,v2),(4,v4),(6,v6),(7,v7),(19,x0)],s):OR)) (get ρ 1) (get ρ 2) (get ρ 4) (get ρ 6) (get ρ 7):=zr
@[go_sem] theorem aby:rc D b KG ρ s=(fun v1 v2 v4 v6 v7=>(aa (ab .mul (.int .i64 7) v1) fun x0=>aa (ab .add x0 v7) fun x1=>aa (aY 48 49 42 v2 x1) fun x2=>aa (ldv s 42 x2) fun x3=>aa (rf D dZ [x3] s) fun x4=>aa (aF 0 x4.1) fun x5=>aa (aF 1 x4.1) fun x6=>some (.normal,[(1,v1),(2,v2),(4,v4),(6,v6),(7,v7),(8,x5),(9,x6)],x4.2):OR)) (get ρ 1) (get ρ 2) (get ρ 4) (get ρ 6) (get ρ 7):=zr
@[go_sem] theorem agq:rc D b Nu ρ s=(fun v1 v2 v4 v6 v7 v8 v9=>(aa (ab .neq v9 (.int .i64 0)) fun x0=>some (.normal,[(1,v1),(2,v2),(4,v4),(6,v6),(7,v7),(8,v8),(33,x0)],s):OR)) (get ρ 1) (get ρ 2) (get ρ 4) (get ρ 6) (get ρ 7) (get ρ 8) (get ρ 9):=zr
@[go_sem] theorem adJ:rc D b JM ρ s=(fun v4=>(aa (ak (List.replicate 8 (.int .u64 0)) []) fun x0=>aa (stv b s 24 (.agg 24 x0) v4) fun s1=>some (.normal,[(4,v4),(5,(.int .i64 1))],s1):OR)) (get ρ 4):=zr
@[go_sem] theorem acG:rc D b Qg ρ s=(fun v1 v2 v4 v6 v7 v8=>(aa (aY 24 8 18 v6 v7) fun x0=>aa (stv b s 18 v8 x0) fun s1=>some (.normal,[(1,v1),(2,v2),(4,v4),(6,v6),(7,v7)],s1):OR)) (get ρ 1) (get ρ 2) (get ρ 4) (get ρ 6) (get ρ 7) (get ρ 8):=zr
@[go_sem] theorem XT:rc D b FD ρ s=(fun v1 v2 v4 v6 v7=>(aa (ab .add v7 (.int .i64 1)) fun x0=>some (.normal,[(1,v1),(2,v2),(4,v4),(6,v6),(7,x0)],s):OR)) (get ρ 1) (get ρ 2) (get ρ 4) (get ρ 6) (get ρ 7):=zr
@[go_sem] theorem Wp:rc D b D7 ρ s=(fun v4 v6=>(aa (ldv s 24 v6) fun x0=>aa (rf D bX [x0] s) fun x1=>aa (stv b x1.2 24 x1.1 v4) fun s2=>some (.normal,[(4,v4),(5,(.int .i64 0))],s2):OR)) (get ρ 4) (get ρ 6):=zr
@[go_sem] theorem aaL:rc D b MW ρ s=(fun v0=>(if V.ok v0 && aq false v0 then let x0:V:=.ptr (St.fresh s false) [] (V.tag v0); let s0:St:=St.new s false v0; let x1:V:=.ptr (St.fresh s0 false) [] 24; let s1:St:=St.new s0 false (.agg 24 (List.replicate 8 (.int .u64 0))); some (.normal,[(1,x0),(2,x1)],s1) else none:OR)) (get ρ 0):=zr
@[go_sem] theorem agl:rc D b Ka ρ s=(fun v1 v2=>(aa (ak (List.replicate 8 (.int .u64 0)) []) fun x0=>let x1:V:=.ptr (St.fresh s false) [] 24; let s1:St:=St.new s false (.agg 24 (List.replicate 8 (.int .u64 0))); aa (stv b s1 24 (.agg 24 x0) x1) fun s2=>some (.normal,[(1,v1),(2,v2),(4,x1)],s2):OR)) (get ρ 1) (get ρ 2):=zr
@[go_sem] theorem afm:rc D b Io ρ s=(fun v1 v2 v4=>(some (.normal,[(1,v1),(2,v2),(4,v4),(5,(.int .i64 0))],s):OR)) (get ρ 1) (get ρ 2) (get ρ 4):=zr
@[go_sem] theorem ZA:rc D b LO ρ s=(fun v1 v2 v4 v5=>(aa (ab .lss v5 (.int .i64 7)) fun x0=>some (.normal,[(1,v1),(2,v2),(4,v4),(5,v5),(8,x0)],s):OR)) (get ρ 1) (get ρ 2) (get ρ 4) (get ρ 5):=zr
@[go_sem] theorem afj:rc D b LJ ρ s=(fun v1 v2 v4 v5=>(aa (aY 60 7 10 v1 v5) fun x0=>aa (ldv s 10 x0) fun x1=>aa (ab .lss x1 (.int .i64 0)) fun x2=>an x2 false (aa (aY 60 7 10 v1 v5) fun x3=>aa (ldv s 10 x3) fun x4=>aa (ab .geq x4 (.int .i64 1024)) fun x5=>some (.normal,[(1,v1),(2,v2),(4,v4),(5,v5),(20,x5)],s)) (some (.normal,[(1,v1),(2,v2),(4,v4),(5,v5),(20,(.bool true))],s)) (none):OR)) (get ρ 1) (get ρ 2) (get ρ 4) (get ρ 5):=zr
@[go_sem] theorem YW:rc D b M9 ρ s=(fun v2=>(aa (ak (List.replicate 8 (.int .u64 0)) []) fun x0=>aa (stv b s 24 (.agg 24 x0) v2) fun s1=>some (.normal,[(2,v2),(3,(.int .i64 1))],s1):OR)) (get ρ 2):=zr
@[go_sem] theorem adl:rc D b IR ρ s=(fun v1 v2 v4 v5=>(aa (aY 60 7 10 v1 v5) fun x0=>aa (ldv s 10 x0) fun x1=>aa (c9 .u64 x1) fun x2=>aa (ab .or x2 (.int .u64 4294967296)) fun x3=>aa (aY 24 8 18 v4 v5) fun x4=>aa (stv b s 18 x3 x4) fun s5=>some (.normal,[(1,v1),(2,v2),(4,v4),(5,v5)],s5):OR)) (get ρ 1) (get ρ 2) (get ρ 4) (get ρ 5):=zr
@[go_sem] theorem abZ:rc D b PX ρ s=(fun v1 v2 v4 v5=>(aa (ab .add v5 (.int .i64 1)) fun x0=>some (.normal,[(1,v1),(2,v2),(4,v4),(5,x0)],s):OR)) (get ρ 1) (get ρ 2) (get ρ 4) (get ρ 5):=zr
@[go_sem] theorem ZH:rc D b I5 ρ s=(fun v2 v4=>(aa (ldv s 24 v4) fun x0=>aa (rf D bX [x0] s) fun x1=>aa (stv b x1.2 24 x1.1 v2) fun s2=>some (.normal,[(2,v2),(3,(.int .i64 0))],s2):OR)) (get ρ 2) (get ρ 4):=zr
@[go_sem] theorem agn:rc D b QM ρ s=(fun v0 v1=>(some (.normal,[(0,v0),(1,v1)],s):OR)) (get ρ 0) (get ρ 1):=zr
@[go_sem] theorem afU:rc D b Mv ρ s=(fun v0 v1=>(aa (ab .lss v0 (.int .i64 0)) fun x0=>an x0 false (aa (ab .gtr v0 v1) fun x1=>an x1 false (aa (ab .gtr v1 (.int .i64 1024)) fun x2=>some (.normal,[(0,v0),(1,v1),(18,x2)],s)) (some (.normal,[(0,v0),(1,v1),(18,(.bool true))],s)) (none)) (some (.normal,[(0,v0),(1,v1),(18,(.bool true))],s)) (none):OR)) (get ρ 0) (get ρ 1):=zr
@[go_sem] theorem aaM:rc D b NC ρ s= some (.normal,[(4,.nilp),(5,(.int .i64 1))],s):=zr
@[go_sem] theorem aau:rc D b Mf ρ s=(fun v0 v1=>(aa (ak [(.int .i64 0),(.int .i64 0),(.agg 78 (List.replicate 16 (.int .u64 0))),(.agg 78 (List.replicate 16 (.int .u64 0)))] [(0,v0),(1,v1)]) fun x0=>if V.ok (.agg 80 x0) && aq true (.agg 80 x0) then let x1:V:=.ptr (St.fresh s true) [] (V.tag (.agg 80 x0)); let s1:St:=St.new s true (.agg 80 x0); some (.normal,[(0,v0),(1,v1),(6,x1)],s1) else none:OR)) (get ρ 0) (get ρ 1):=zr
@[go_sem] theorem acp:rc D b MD ρ s=(fun v0 v1 v6=>(aa (ab .sub v1 v0) fun x0=>some (.normal,[(0,v0),(6,v6),(25,x0),(26,(.int .i64 0))],s):OR)) (get ρ 0) (get ρ 1) (get ρ 6):=zr
@[go_sem] theorem acr:rc D b Ko ρ s=(fun v0 v6 v25 v26=>(aa (ab .lss v26 v25) fun x0=>some (.normal,[(0,v0),(6,v6),(25,v25),(26,v26),(27,x0)],s):OR)) (get ρ 0) (get ρ 6) (get ρ 25) (get ρ 26):=zr
@[go_sem] theorem agE:rc D b Nb ρ s=(fun v0 v6 v25 v26=>(some (.normal,[(0,v0),(6,v6),(7,v26),(25,v25),(26,v26)],s):OR)) (get ρ 0) (get ρ 6) (get ρ 25) (get ρ 26):=zr
@[go_sem] theorem Yj:rc D b MG ρ s=(fun v0 v6 v7 v25 v26=>(aa (ai v6) fun x0=>aa (ae 80 2 78 x0) fun x1=>aa (ab .add v0 v7) fun x2=>aa (rf D aT [x1,x2] s) fun x3=>some (.normal,[(0,v0),(6,v6),(25,v25),(26,v26)],x3.2):OR)) (get ρ 0) (get ρ 6) (get ρ 7) (get ρ 25) (get ρ 26):=zr
@[go_sem] theorem abx:rc D b P2 ρ s=(fun v0 v6 v25 v26=>(aa (ab .add v26 (.int .i64 1)) fun x0=>some (.normal,[(0,v0),(6,v6),(25,v25),(26,x0)],s):OR)) (get ρ 0) (get ρ 6) (get ρ 25) (get ρ 26):=zr
@[go_sem] theorem adS:rc D b O1 ρ s=(fun v6=>(some (.normal,[(4,v6),(5,(.int .i64 0))],s):OR)) (get ρ 6):=zr
@[go_sem] theorem ade:rc D b QS ρ s=(fun v0=>(some (.normal,[(0,v0)],s):OR)) (get ρ 0):=zr
@[go_sem] theorem aeY:rc D b Pd ρ s=(fun v0=>(aa (ai v0) fun x0=>aa (ae 59 0 1 x0) fun x1=>aa (ldv s 1 x1) fun x2=>aa (V.slen false x2) fun x3=>some (.normal,[(2,(.int .i64 x3))],s):OR)) (get ρ 0):=zr
@[go_sem] theorem adm:rc D b MC ρ s=(fun v0 v1=>(some (.normal,[(0,v0),(1,v1)],s):OR)) (get ρ 0) (get ρ 1):=zr
@[go_sem] theorem aev:rc D b Qc ρ s=(fun v0 v1=>(aa (rf D bE [v0,v1,(.int .i64 0)] s) fun x0=>some (.normal,[(0,v0),(1,v1),(5,x0.1)],x0.2):OR)) (get ρ 0) (get ρ 1):=zr
@[go_sem] theorem Yk:rc D b NN ρ s=(fun v0 v1 v5=>(aa (ab .eql v5 (.int .i64 0)) fun x0=>some (.normal,[(0,v0),(1,v1),(5,v5),(10,x0)],s):OR)) (get ρ 0) (get ρ 1) (get ρ 5):=zr
@[go_sem] theorem aaw:rc D b LC ρ s=(fun v0 v1 v5=>(aa (ai v0) fun x0=>aa (ae 80 2 78 x0) fun x1=>aa (rf D aT [x1,v1] s) fun x2=>some (.normal,[(5,v5)],x2.2):OR)) (get ρ 0) (get ρ 1) (get ρ 5):=zr
@[go_sem] theorem afN:rc D b Jg ρ s=(fun v5=>(some (.normal,[(4,v5)],s):OR)) (get ρ 5):=zr
@[go_sem] theorem adP:rc D b Q8 ρ s=(fun v0=>(aa (ak (List.replicate 1024 (.bool false)) []) fun x0=>aa (ai v0) fun x1=>aa (ae 43 7 82 x1) fun x2=>aa (stv b s 82 (.agg 82 x0) x2) fun s3=>some (.normal,[(0,v0)],s3):OR)) (get ρ 0):=zr
@[go_sem] theorem ack:rc D b Kl ρ s=(fun v0=>(aa (ai v0) fun x0=>aa (ae 43 7 82 x0) fun x1=>aa (ai v0) fun x2=>aa (ae 43 3 48 x2) fun x3=>aa (ldv s 48 x3) fun x4=>aa (rf D be [x1,x4] s) fun x5=>some (.normal,[(0,v0)],x5.2):OR)) (get ρ 0):=zd
@[go_sem] theorem ad8:rc D b OQ ρ s=(fun v0=>(aa (ai v0) fun x0=>aa (ae 43 6 0 x0) fun x1=>aa (ldv s 0 x1) fun x2=>some (.normal,[(0,v0),(17,x2)],s):OR)) (get ρ 0):=zr
@[go_sem] theorem abm:rc D b LP ρ s=(fun v0=>(aa (ai v0) fun x0=>aa (ae 43 7 82 x0) fun x1=>aa (ai v0) fun x2=>aa (ae 43 5 48 x2) fun x3=>aa (ldv s 48 x3) fun x4=>aa (rf D be [x1,x4] s) fun x5=>some (.normal,[],x5.2):OR)) (get ρ 0):=zd
@[go_sem] theorem afP:rc D b Kw ρ s=(fun v0 v1=>(some (.normal,[(0,v0),(1,v1)],s):OR)) (get ρ 0) (get ρ 1):=zr
@[go_sem] theorem Zq:rc D b Is ρ s=(fun v0 v1=>(aa (ai v0) fun x0=>aa (ae 43 2 48 x0) fun x1=>aa (aY 48 49 42 x1 v1) fun x2=>aa (ae 42 2 10 x2) fun x3=>aa (ldv s 10 x3) fun x4=>aa (ai v0) fun x5=>aa (ae 43 7 82 x5) fun x6=>aa (aY 82 1024 0 x6 x4) fun x7=>aa (ldv s 0 x7) fun x8=>aa (vun .not x8) fun x9=>some (.normal,[(4,x9)],s):OR)) (get ρ 0) (get ρ 1):=zd
@[go_sem] theorem ado:rc D b NP ρ s=(fun v0 v1 v2 v3=>(some (.normal,[(0,v0),(1,v1),(2,v2),(3,v3)],s):OR)) (get ρ 0) (get ρ 1) (get ρ 2) (get ρ 3):=zr
@[go_sem] theorem aaj:rc D b Kv ρ s=(fun v0 v1 v2 v3=>(aa (rf D cv [v0,v1] s) fun x0=>some (.normal,[(0,v0),(2,v2),(3,v3),(9,x0.1)],x0.2):OR)) (get ρ 0) (get ρ 1) (get ρ 2) (get ρ 3):=zr
@[go_sem] theorem acP:rc D b K7 ρ s=(fun v0 v2 v3 v9=>(aa (eqv false 1 v9 .nilp) fun x0=>an x0 false (aa (ab .lss v2 (.int .i64 0)) fun x1=>an x1 false (aa (ab .geq v2 (.int .i64 8)) fun x2=>some (.normal,[(0,v0),(2,v2),(3,v3),(9,v9),(23,x2)],s)) (some (.normal,[(0,v0),(2,v2),(3,v3),(9,v9),(23,(.bool true))],s)) (none)) (some (.normal,[(0,v0),(2,v2),(3,v3),(9,v9),(23,(.bool true))],s)) (none):OR)) (get ρ 0) (get ρ 2) (get ρ 3) (get ρ 9):=zr
@[go_sem] theorem abg:rc D b J8 ρ s= some (.normal,[(8,(.int .i64 1))],s):=zr
@[go_sem] theorem ae4:rc D b QL ρ s=(fun v0 v2 v3 v9=>(aa (rf D a8 [v0] s) fun x0=>some (.normal,[(2,v2),(3,v3),(9,v9),(10,x0.1)],x0.2):OR)) (get ρ 0) (get ρ 2) (get ρ 3) (get ρ 9):=zr
@[go_sem] theorem abA:rc D b QZ ρ s=(fun v2 v3 v9 v10=>(aa (ab .neq v10 (.int .i64 0)) fun x0=>some (.normal,[(2,v2),(3,v3),(9,v9),(10,v10),(27,x0)],s):OR)) (get ρ 2) (get ρ 3) (get ρ 9) (get ρ 10):=zr
@[go_sem] theorem agd:rc D b IY ρ s=(fun v10=>(some (.normal,[(8,v10)],s):OR)) (get ρ 10):=zr
@[go_sem] theorem afV:rc D b Jl ρ s=(fun v2 v3 v9=>(aa (ai v9) fun x0=>aa (ae 55 0 24 x0) fun x1=>aa (aY 24 8 18 x1 v2) fun x2=>aa (stv b s 18 v3 x2) fun s3=>some (.normal,[(2,v2),(3,v3),(9,v9)],s3):OR)) (get ρ 2) (get ρ 3) (get ρ 9):=zr
@[go_sem] theorem acR:rc D b QO ρ s=(fun v2 v3 v9=>(aa (ai v9) fun x0=>aa (ae 55 2 1 x0) fun x1=>aa (ldv s 1 x1) fun x2=>aa (ak [(.int .i64 0),(.int .u64 0)] [(0,v2),(1,v3)]) fun x3=>aa (m8 false 86 84 1 (.agg 84 [(.int .i64 0),(.int .u64 0)]) s [(0,(.agg 84 x3))]) fun x4=>aa (aG b true 86 84 x2 x4.1 x4.2) fun x5=>aa (ai v9) fun x6=>aa (ae 55 2 1 x6) fun x7=>aa (stv b x5.2 1 x5.1 x7) fun s8=>some (.normal,[],s8):OR)) (get ρ 2) (get ρ 3) (get ρ 9):=zr
@[go_sem] theorem Yc:rc D b PY ρ s= some (.normal,[(8,(.int .i64 0))],s):=zr
@[go_sem] theorem acF:rc D b Ou ρ s=(fun v0 v1=>(if V.ok v1 && aq false v1 then let x0:V:=.ptr (St.fresh s false) [] (V.tag v1); let s0:St:=St.new s false v1; some (.normal,[(0,v0),(3,x0)],s0) else none:OR)) (get ρ 0) (get ρ 1):=zr
@[go_sem] theorem abD:rc D b JA ρ s=(fun v0 v3=>(aa (ai v0) fun x0=>aa (ae 43 1 1 x0) fun x1=>aa (ldv s 1 x1) fun x2=>aa (rf D bf [x2] s) fun x3=>aa (aF 0 x3.1) fun x4=>aa (aF 1 x3.1) fun x5=>some (.normal,[(0,v0),(3,v3),(6,x4),(7,x5)],x3.2):OR)) (get ρ 0) (get ρ 3):=zr
@[go_sem] theorem abF:rc D b Ih ρ s=(fun v0 v3 v6 v7=>(aa (ab .neq v7 (.int .i64 0)) fun x0=>some (.normal,[(0,v0),(3,v3),(6,v6),(7,v7),(20,x0)],s):OR)) (get ρ 0) (get ρ 3) (get ρ 6) (get ρ 7):=zr
@[go_sem] theorem aeZ:rc D b KP ρ s=(fun v7=>(some (.normal,[(4,(.int .i64 0)),(5,v7)],s):OR)) (get ρ 7):=zr
@[go_sem] theorem aaK:rc D b Pc ρ s=(fun v0 v3 v6=>(aa (ldv s 24 v3) fun x0=>some (.normal,[(0,v0),(6,v6),(22,x0),(23,(.int .i64 0))],s):OR)) (get ρ 0) (get ρ 3) (get ρ 6):=zr
@[go_sem] theorem ZW:rc D b Mq ρ s=(fun v0 v6 v22 v23=>(aa (ab .lss v23 (.int .i64 8)) fun x0=>some (.normal,[(0,v0),(6,v6),(22,v22),(23,v23),(24,x0)],s):OR)) (get ρ 0) (get ρ 6) (get ρ 22) (get ρ 23):=zr
@[go_sem] theorem ZM:rc D b Ny ρ s=(fun v0 v6 v22 v23=>(aa (iq 24 8 v22 v23) fun x0=>some (.normal,[(0,v0),(6,v6),(8,v23),(9,x0),(22,v22),(23,v23)],s):OR)) (get ρ 0) (get ρ 6) (get ρ 22) (get ρ 23):=zr
@[go_sem] theorem abC:rc D b Kb ρ s=(fun v0 v6 v8 v9 v22 v23=>(aa (ai v0) fun x0=>aa (ae 43 0 1 x0) fun x1=>aa (ldv s 1 x1) fun x2=>aa (rf D aV [x2,v6,v8,v9] s) fun x3=>some (.normal,[(0,v0),(6,v6),(10,x3.1),(22,v22),(23,v23)],x3.2):OR)) (get ρ 0) (get ρ 6) (get ρ 8) (get ρ 9) (get ρ 22) (get ρ 23):=zr
@[go_sem] theorem aa9:rc D b Mc ρ s=(fun v0 v6 v10 v22 v23=>(aa (ab .neq v10 (.int .i64 0)) fun x0=>some (.normal,[(0,v0),(6,v6),(10,v10),(22,v22),(23,v23),(36,x0)],s):OR)) (get ρ 0) (get ρ 6) (get ρ 10) (get ρ 22) (get ρ 23):=zr
@[go_sem] theorem aeP:rc D b PF ρ s=(fun v10=>(some (.normal,[(4,(.int .i64 0)),(5,v10)],s):OR)) (get ρ 10):=zr
@[go_sem] theorem Xa:rc D b C4 ρ s=(fun v0 v6 v22 v23=>(aa (ab .add v23 (.int .i64 1)) fun x0=>some (.normal,[(0,v0),(6,v6),(22,v22),(23,x0)],s):OR)) (get ρ 0) (get ρ 6) (get ρ 22) (get ρ 23):=zr
@[go_sem] theorem Xu:rc D b Db ρ s=(fun v6=>(some (.normal,[(4,v6),(5,(.int .i64 0))],s):OR)) (get ρ 6):=zr
@[go_sem] theorem ZP:rc D b Qa ρ s=(fun v0 v1=>(some (.normal,[(0,v0),(1,v1)],s):OR)) (get ρ 0) (get ρ 1):=zr
@[go_sem] theorem adc:rc D b Pq ρ s=(fun v0 v1=>(some (.normal,[(0,v0),(9,v1)],s):OR)) (get ρ 0) (get ρ 1):=zr
@[go_sem] theorem afr:rc D b P4 ρ s=(fun v0 v9=>(aa (ab .eql v9 (.int .i64 1)) fun x0=>some (.normal,[(0,v0),(9,v9),(10,x0)],s):OR)) (get ρ 0) (get ρ 9):=zr
@[go_sem] theorem ZN:rc D b II ρ s=(fun v0 v9=>(aa (ab .eql v9 (.int .i64 2)) fun x0=>some (.normal,[(0,v0),(9,v9),(10,x0)],s):OR)) (get ρ 0) (get ρ 9):=zr
@[go_sem] theorem adg:rc D b OM ρ s=(fun v0 v9=>(aa (ab .eql v9 (.int .i64 4)) fun x0=>some (.normal,[(0,v0),(10,x0)],s):OR)) (get ρ 0) (get ρ 9):=zr
@[go_sem] theorem acX:rc D b N3 ρ s= some (.normal,[(4,(.int .i64 0)),(5,(.int .i64 0)),(6,(.int .i64 1))],s):=zr
@[go_sem] theorem adh:rc D b Lp ρ s=(fun v0=>(aa (ai v0) fun x0=>aa (ae 43 2 48 x0) fun x1=>aa (ldv s 48 x1) fun x2=>some (.normal,[(17,x2),(18,(.int .i64 0))],s):OR)) (get ρ 0):=zr
@[go_sem] theorem afE:rc D b Oh ρ s=(fun v17 v18=>(aa (ab .lss v18 (.int .i64 49)) fun x0=>some (.normal,[(17,v17),(18,v18),(19,x0)],s):OR)) (get ρ 17) (get ρ 18):=zr
@[go_sem] theorem YQ:rc D b JP ρ s=(fun v17 v18=>(aa (iq 48 49 v17 v18) fun x0=>let x1:V:=.ptr (St.fresh s false) [] 42; let s1:St:=St.new s false (.agg 42 [(.int .i64 0),(.int .i64 0),(.int .i64 0)]); aa (stv b s1 42 x0 x1) fun s2=>some (.normal,[(7,v18),(8,x1),(17,v17),(18,v18)],s2):OR)) (get ρ 17) (get ρ 18):=zr
@[go_sem] theorem Yd:rc D b K9 ρ s=(fun v7 v8 v17 v18=>(aa (ldv s 42 v8) fun x0=>aa (rf D km [x0] s) fun x1=>some (.normal,[(7,v7),(8,v8),(17,v17),(18,v18),(23,x1.1)],x1.2):OR)) (get ρ 7) (get ρ 8) (get ρ 17) (get ρ 18):=zr
@[go_sem] theorem XJ:rc D b CS ρ s=(fun v7 v8=>(aa (ae 42 1 10 v8) fun x0=>aa (ldv s 10 x0) fun x1=>some (.normal,[(4,v7),(5,x1),(6,(.int .i64 0))],s):OR)) (get ρ 7) (get ρ 8):=zd
@[go_sem] theorem WB:rc D b CP ρ s=(fun v17 v18=>(aa (ab .add v18 (.int .i64 1)) fun x0=>some (.normal,[(17,v17),(18,x0)],s):OR)) (get ρ 17) (get ρ 18):=zr
@[go_sem] theorem WT:rc D b Ec ρ s= some (.normal,[(4,(.int .i64 0)),(5,(.int .i64 0)),(6,(.int .i64 34))],s):=zr
@[go_sem] theorem ab1:rc D b JC ρ s=(fun v0 v1=>(some (.normal,[(0,v0),(1,v1)],s):OR)) (get ρ 0) (get ρ 1):=zr
@[go_sem] theorem aeQ:rc D b OT ρ s=(fun v0 v1=>(aa (rf D bE [v0,v1,(.int .i64 1)] s) fun x0=>some (.normal,[(0,v0),(1,v1),(5,x0.1)],x0.2):OR)) (get ρ 0) (get ρ 1):=zr
@[go_sem] theorem acy:rc D b QP ρ s=(fun v0 v1 v5=>(aa (ab .eql v5 (.int .i64 0)) fun x0=>some (.normal,[(0,v0),(1,v1),(5,v5),(10,x0)],s):OR)) (get ρ 0) (get ρ 1) (get ρ 5):=zr
@[go_sem] theorem acg:rc D b LQ ρ s=(fun v0 v1 v5=>(aa (ai v0) fun x0=>aa (ae 80 2 78 x0) fun x1=>aa (rf D aT [x1,v1] s) fun x2=>some (.normal,[(5,v5)],x2.2):OR)) (get ρ 0) (get ρ 1) (get ρ 5):=zr
@[go_sem] theorem abk:rc D b Lk ρ s=(fun v5=>(some (.normal,[(4,v5)],s):OR)) (get ρ 5):=zr
@[go_sem] theorem adQ:rc D b MB ρ s=(fun v0=>(if V.ok v0 && aq false v0 then let x0:V:=.ptr (St.fresh s false) [] (V.tag v0); let s0:St:=St.new s false v0; let x1:V:=.ptr (St.fresh s0 false) [] 42; let s1:St:=St.new s0 false (.agg 42 [(.int .i64 0),(.int .i64 0),(.int .i64 0)]); some (.normal,[(1,x0),(2,x1)],s1) else none:OR)) (get ρ 0):=zr
@[go_sem] theorem aeD:rc D b OY ρ s=(fun v1 v2=>(aa (ae 42 0 10 v1) fun x0=>aa (ldv s 10 x0) fun x1=>aa (ab .eql x1 (.int .i64 0)) fun x2=>some (.normal,[(1,v1),(2,v2),(6,x2)],s):OR)) (get ρ 1) (get ρ 2):=zr
@[go_sem] theorem afh:rc D b LV ρ s=(fun v2=>(aa (ak [(.int .i64 0),(.int .i64 0),(.int .i64 0)] []) fun x0=>aa (stv b s 42 (.agg 42 x0) v2) fun s1=>some (.normal,[(2,v2),(3,(.int .i64 30))],s1):OR)) (get ρ 2):=zr
@[go_sem] theorem acC:rc D b Ns ρ s=(fun v1 v2=>(aa (ae 42 1 10 v1) fun x0=>aa (ldv s 10 x0) fun x1=>aa (ae 42 1 10 v1) fun x2=>aa (ldv s 10 x2) fun x3=>aa (ab .sub (.int .i64 16777215) x3) fun x4=>aa (i5 false (.int .i64 1) x4) fun x5=>aa (ab .add x1 x5) fun x6=>aa (ak [(.int .i64 0),(.int .i64 0),(.int .i64 0)] [(1,x6)]) fun x7=>aa (stv b s 42 (.agg 42 x7) v2) fun s8=>some (.normal,[(2,v2),(3,(.int .i64 0))],s8):OR)) (get ρ 1) (get ρ 2):=zr
@[go_sem] theorem af9:rc D b Nm ρ s=(fun v0=>(some (.normal,[(0,v0)],s):OR)) (get ρ 0):=zr
@[go_sem] theorem aeg:rc D b PN ρ s=(fun v0=>(aa (ab .shr v0 (.int .u64 1)) fun x0=>aa (ab .and x0 (.int .u64 6148914691236517205)) fun x1=>aa (ab .and v0 (.int .u64 6148914691236517205)) fun x2=>aa (ab .add x1 x2) fun x3=>some (.normal,[(0,x3)],s):OR)) (get ρ 0):=zr
@[go_sem] theorem abh:rc D b Jo ρ s=(fun v0=>(aa (ab .shr v0 (.int .u64 2)) fun x0=>aa (ab .and x0 (.int .u64 3689348814741910323)) fun x1=>aa (ab .and v0 (.int .u64 3689348814741910323)) fun x2=>aa (ab .add x1 x2) fun x3=>some (.normal,[(0,x3)],s):OR)) (get ρ 0):=zr
@[go_sem] theorem ad3:rc D b I7 ρ s=(fun v0=>(aa (ab .shr v0 (.int .u64 4)) fun x0=>aa (ab .add x0 v0) fun x1=>aa (ab .and x1 (.int .u64 1085102592571150095)) fun x2=>some (.normal,[(0,x2)],s):OR)) (get ρ 0):=zr
@[go_sem] theorem agi:rc D b IP ρ s=(fun v0=>(aa (ab .shr v0 (.int .u64 8)) fun x0=>aa (ab .add v0 x0) fun x1=>some (.normal,[(0,x1)],s):OR)) (get ρ 0):=zr
@[go_sem] theorem Yu:rc D b Jv ρ s=(fun v0=>(aa (ab .shr v0 (.int .u64 16)) fun x0=>aa (ab .add v0 x0) fun x1=>some (.normal,[(0,x1)],s):OR)) (get ρ 0):=zr
@[go_sem] theorem aat:rc D b LR ρ s=(fun v0=>(aa (ab .shr v0 (.int .u64 32)) fun x0=>aa (ab .add v0 x0) fun x1=>some (.normal,[(0,x1)],s):OR)) (get ρ 0):=zr
@[go_sem] theorem agv:rc D b Px ρ s=(fun v0=>(aa (c9 .i64 v0) fun x0=>aa (ab .and x0 (.int .i64 127)) fun x1=>some (.normal,[(2,x1)],s):OR)) (get ρ 0):=zr
@[go_sem] theorem aak:rc D b M3 ρ s=(fun v0=>(some (.normal,[(0,v0)],s):OR)) (get ρ 0):=zr
@[go_sem] theorem aaQ:rc D b Lq ρ s=(fun v0=>(aa (ab .eql v0 (.int .u64 0)) fun x0=>some (.normal,[(0,v0),(4,x0)],s):OR)) (get ρ 0):=zr
@[go_sem] theorem XU:rc D b N5 ρ s= some (.normal,[(2,(.int .i64 64))],s):=zr
@[go_sem] theorem aew:rc D b NQ ρ s=(fun v0=>(aa (vun .neg v0) fun x0=>aa (ab .and v0 x0) fun x1=>aa (ab .mul x1 (.int .u64 285870213051353865)) fun x2=>aa (ab .shr x2 (.int .u64 58)) fun x3=>aa (aY 108 64 12 wG x3) fun x4=>aa (ldv s 12 x4) fun x5=>aa (c9 .i64 x5) fun x6=>some (.normal,[(2,x6)],s):OR)) (get ρ 0):=zr
@[go_sem] theorem aeR:rc D b OO ρ s=(fun v0 v1=>(aa (ab .quo v1 (.int .i64 64)) fun x0=>aa (ai v0) fun x1=>aa (aY 78 16 18 x1 x0) fun x2=>aa (ldv s 18 x2) fun x3=>aa (ab .rem v1 (.int .i64 64)) fun x4=>aa (ab .shl (.int .u64 1) x4) fun x5=>aa (ab .xor x3 x5) fun x6=>aa (ai v0) fun x7=>aa (aY 78 16 18 x7 x0) fun x8=>aa (stv b s 18 x6 x8) fun s9=>some (.normal,[],s9):OR)) (get ρ 0) (get ρ 1):=zd
@[go_sem] theorem acx:rc D b Mk ρ s=(fun v0 v1 v2=>(some (.normal,[(0,v0),(1,v1),(2,v2)],s):OR)) (get ρ 0) (get ρ 1) (get ρ 2):=zr
@[go_sem] theorem ada:rc D b J4 ρ s=(fun v0 v1 v2=>(aa (rf D cv [v0,v2] s) fun x0=>some (.normal,[(0,v0),(1,v1),(7,x0.1)],x0.2):OR)) (get ρ 0) (get ρ 1) (get ρ 2):=zr
@[go_sem] theorem ZB:rc D b N9 ρ s=(fun v0 v1 v7=>(aa (eqv false 1 v7 .nilp) fun x0=>an x0 false (aa (ab .lss v1 (.int .i64 0)) fun x1=>an x1 false (aa (ab .geq v1 (.int .i64 8)) fun x2=>some (.normal,[(0,v0),(1,v1),(7,v7),(21,x2)],s)) (some (.normal,[(0,v0),(1,v1),(7,v7),(21,(.bool true))],s)) (none)) (some (.normal,[(0,v0),(1,v1),(7,v7),(21,(.bool true))],s)) (none):OR)) (get ρ 0) (get ρ 1) (get ρ 7):=zr
@[go_sem] theorem YK:rc D b KW ρ s= some (.normal,[(6,(.int .i64 1))],s):=zr
@[go_sem] theorem aeI:rc D b Q4 ρ s=(fun v0 v1 v7=>(aa (rf D a8 [v0] s) fun x0=>some (.normal,[(1,v1),(7,v7),(8,x0.1)],x0.2):OR)) (get ρ 0) (get ρ 1) (get ρ 7):=zr
@[go_sem] theorem aeM:rc D b PD ρ s=(fun v1 v7 v8=>(aa (ab .neq v8 (.int .i64 0)) fun x0=>some (.normal,[(1,v1),(7,v7),(8,v8),(25,x0)],s):OR)) (get ρ 1) (get ρ 7) (get ρ 8):=zr
@[go_sem] theorem afX:rc D b KE ρ s=(fun v8=>(some (.normal,[(6,v8)],s):OR)) (get ρ 8):=zr
@[go_sem] theorem afv:rc D b My ρ s=(fun v1 v7=>(aa (ai v7) fun x0=>aa (ae 55 2 1 x0) fun x1=>aa (ldv s 1 x1) fun x2=>aa (V.slen false x2) fun x3=>aa (ai v7) fun x4=>aa (ae 55 3 50 x4) fun x5=>aa (aY 50 8 10 x5 v1) fun x6=>aa (stv b s 10 (.int .i64 x3) x6) fun s7=>some (.normal,[],s7):OR)) (get ρ 1) (get ρ 7):=zd
@[go_sem] theorem aeT:rc D b K5 ρ s= some (.normal,[(6,(.int .i64 0))],s):=zr
@[go_sem] theorem acD:rc D b JZ ρ s=(fun v0 v1=>(if V.ok v0 && aq false v0 then let x0:V:=.ptr (St.fresh s false) [] (V.tag v0); let s0:St:=St.new s false v0; let x1:V:=.ptr (St.fresh s0 false) [] 24; let s1:St:=St.new s0 false (.agg 24 (List.replicate 8 (.int .u64 0))); some (.normal,[(1,v1),(2,x0),(4,x1)],s1) else none:OR)) (get ρ 0) (get ρ 1):=zr
@[go_sem] theorem adi:rc D b Iu ρ s=(fun v1 v2 v4=>(aa (ab .lss v1 (.int .i64 0)) fun x0=>an x0 false (aa (ab .geq v1 (.int .i64 7)) fun x1=>some (.normal,[(1,v1),(2,v2),(4,v4),(15,x1)],s)) (some (.normal,[(1,v1),(2,v2),(4,v4),(15,(.bool true))],s)) (none):OR)) (get ρ 1) (get ρ 2) (get ρ 4):=zr
@[go_sem] theorem ZY:rc D b P0 ρ s=(fun v4=>(aa (ak (List.replicate 8 (.int .u64 0)) []) fun x0=>aa (stv b s 24 (.agg 24 x0) v4) fun s1=>some (.normal,[(4,v4),(5,(.int .i64 1))],s1):OR)) (get ρ 4):=zr
@[go_sem] theorem Zs:rc D b I9 ρ s=(fun v1 v2 v4=>(let x0:V:=.ptr (St.fresh s false) [] 24; let s0:St:=St.new s false (.agg 24 (List.replicate 8 (.int .u64 0))); some (.normal,[(1,v1),(2,v2),(4,v4),(6,x0)],s0):OR)) (get ρ 1) (get ρ 2) (get ρ 4):=zr
@[go_sem] theorem ab8:rc D b Na ρ s=(fun v1 v2 v4 v6=>(some (.normal,[(1,v1),(2,v2),(4,v4),(6,v6),(17,(.int .i64 0))],s):OR)) (get ρ 1) (get ρ 2) (get ρ 4) (get ρ 6):=zr
@[go_sem] theorem afl:rc D b Oe ρ s=(fun v1 v2 v4 v6 v17=>(aa (ab .lss v17 (.int .i64 7)) fun x0=>some (.normal,[(1,v1),(2,v2),(4,v4),(6,v6),(17,v17),(18,x0)],s):OR)) (get ρ 1) (get ρ 2) (get ρ 4) (get ρ 6) (get ρ 17):=zr
@[go_sem] theorem aaF:rc D b Ox ρ s=(fun v1 v2 v4 v6 v17=>(some (.normal,[(1,v1),(2,v2),(4,v4),(6,v6),(7,v17),(17,v17)],s):OR)) (get ρ 1) (get ρ 2) (get ρ 4) (get ρ 6) (get ρ 17):=zr
@[go_sem] theorem abQ:rc D b MA ρ s=(fun v1 v2 v4 v6 v7 v17=>(aa (ab .mul (.int .i64 7) v1) fun x0=>aa (ab .add x0 v7) fun x1=>aa (aY 48 49 42 v2 x1) fun x2=>aa (ldv s 42 x2) fun x3=>aa (rf D j0 [x3] s) fun x4=>aa (aF 0 x4.1) fun x5=>aa (aF 1 x4.1) fun x6=>some (.normal,[(1,v1),(2,v2),(4,v4),(6,v6),(7,v7),(8,x5),(9,x6),(17,v17)],x4.2):OR)) (get ρ 1) (get ρ 2) (get ρ 4) (get ρ 6) (get ρ 7) (get ρ 17):=zr
@[go_sem] theorem acs:rc D b O8 ρ s=(fun v1 v2 v4 v6 v7 v8 v9 v17=>(aa (ab .neq v9 (.int .i64 0)) fun x0=>some (.normal,[(1,v1),(2,v2),(4,v4),(6,v6),(7,v7),(8,v8),(9,v9),(17,v17),(31,x0)],s):OR)) (get ρ 1) (get ρ 2) (get ρ 4) (get ρ 6) (get ρ 7) (get ρ 8) (get ρ 9) (get ρ 17):=zr
@[go_sem] theorem abM:rc D b Jf ρ s=(fun v4 v9=>(aa (ak (List.replicate 8 (.int .u64 0)) []) fun x0=>aa (stv b s 24 (.agg 24 x0) v4) fun s1=>some (.normal,[(4,v4),(5,v9)],s1):OR)) (get ρ 4) (get ρ 9):=zr
@[go_sem] theorem Xc:rc D b Cj ρ s=(fun v1 v2 v4 v6 v7 v8 v17=>(aa (aY 24 8 18 v6 v7) fun x0=>aa (stv b s 18 v8 x0) fun s1=>some (.normal,[(1,v1),(2,v2),(4,v4),(6,v6),(17,v17)],s1):OR)) (get ρ 1) (get ρ 2) (get ρ 4) (get ρ 6) (get ρ 7) (get ρ 8) (get ρ 17):=zr
@[go_sem] theorem Xh:rc D b Fp ρ s=(fun v1 v2 v4 v6 v17=>(aa (ab .add v17 (.int .i64 1)) fun x0=>some (.normal,[(1,v1),(2,v2),(4,v4),(6,v6),(17,x0)],s):OR)) (get ρ 1) (get ρ 2) (get ρ 4) (get ρ 6) (get ρ 17):=zr
@[go_sem] theorem XN:rc D b ET ρ s=(fun v4 v6=>(aa (ldv s 24 v6) fun x0=>aa (rf D fQ [x0] s) fun x1=>aa (stv b x1.2 24 x1.1 v4) fun s2=>some (.normal,[(4,v4),(5,(.int .i64 0))],s2):OR)) (get ρ 4) (get ρ 6):=zr
@[go_sem] theorem ad6:rc D b JX ρ s=(fun v0 v1 v2=>(if V.ok v1 && aq false v1 then let x0:V:=.ptr (St.fresh s false) [] (V.tag v1); let s0:St:=St.new s false v1; some (.normal,[(0,v0),(2,v2),(4,x0)],s0) else none:OR)) (get ρ 0) (get ρ 1) (get ρ 2):=zr
@[go_sem] theorem adt:rc D b Nv ρ s=(fun v0 v2 v4=>(aa (ai v0) fun x0=>aa (ae 61 1 1 x0) fun x1=>aa (ldv s 1 x1) fun x2=>aa (rf D cg [x2] s) fun x3=>aa (aF 0 x3.1) fun x4=>aa (aF 1 x3.1) fun x5=>some (.normal,[(0,v0),(2,v2),(4,v4),(7,x4),(8,x5)],x3.2):OR)) (get ρ 0) (get ρ 2) (get ρ 4):=zr
@[go_sem] theorem adp:rc D b MJ ρ s=(fun v0 v2 v4 v7 v8=>(aa (ab .neq v8 (.int .i64 0)) fun x0=>some (.normal,[(0,v0),(2,v2),(4,v4),(7,v7),(8,v8),(22,x0)],s):OR)) (get ρ 0) (get ρ 2) (get ρ 4) (get ρ 7) (get ρ 8):=zr
@[go_sem] theorem aey:rc D b QN ρ s=(fun v8=>(some (.normal,[(6,v8)],s):OR)) (get ρ 8):=zr
@[go_sem] theorem Yv:rc D b N6 ρ s=(fun v0 v2 v4 v7=>(aa (ldv s 24 v4) fun x0=>some (.normal,[(0,v0),(2,v2),(7,v7),(24,x0),(25,(.int .i64 0))],s):OR)) (get ρ 0) (get ρ 2) (get ρ 4) (get ρ 7):=zr
@[go_sem] theorem abi:rc D b LS ρ s=(fun v0 v2 v7 v24 v25=>(aa (ab .lss v25 (.int .i64 8)) fun x0=>some (.normal,[(0,v0),(2,v2),(7,v7),(24,v24),(25,v25),(26,x0)],s):OR)) (get ρ 0) (get ρ 2) (get ρ 7) (get ρ 24) (get ρ 25):=zr
@[go_sem] theorem af4:rc D b Ls ρ s=(fun v0 v2 v7 v24 v25=>(aa (iq 24 8 v24 v25) fun x0=>some (.normal,[(0,v0),(2,v2),(7,v7),(9,v25),(10,x0),(24,v24),(25,v25)],s):OR)) (get ρ 0) (get ρ 2) (get ρ 7) (get ρ 24) (get ρ 25):=zr
@[go_sem] theorem Zi:rc D b LN ρ s=(fun v0 v2 v7 v9 v10 v24 v25=>(aa (ai v0) fun x0=>aa (ae 61 0 1 x0) fun x1=>aa (ldv s 1 x1) fun x2=>aa (rf D aV [x2,v7,v9,v10] s) fun x3=>some (.normal,[(0,v0),(2,v2),(7,v7),(11,x3.1),(24,v24),(25,v25)],x3.2):OR)) (get ρ 0) (get ρ 2) (get ρ 7) (get ρ 9) (get ρ 10) (get ρ 24) (get ρ 25):=zr
@[go_sem] theorem afb:rc D b OD ρ s=(fun v0 v2 v7 v11 v24 v25=>(aa (ab .neq v11 (.int .i64 0)) fun x0=>some (.normal,[(0,v0),(2,v2),(7,v7),(11,v11),(24,v24),(25,v25),(38,x0)],s):OR)) (get ρ 0) (get ρ 2) (get ρ 7) (get ρ 11) (get ρ 24) (get ρ 25):=zr
@[go_sem] theorem afg:rc D b IL ρ s=(fun v11=>(some (.normal,[(6,v11)],s):OR)) (get ρ 11):=zr
@[go_sem] theorem Wo:rc D b EO ρ s=(fun v0 v2 v7 v24 v25=>(aa (ab .add v25 (.int .i64 1)) fun x0=>some (.normal,[(0,v0),(2,v2),(7,v7),(24,v24),(25,x0)],s):OR)) (get ρ 0) (get ρ 2) (get ρ 7) (get ρ 24) (get ρ 25):=zr
@[go_sem] theorem XM:rc D b CV ρ s=(fun v0 v2 v7=>(aa (rf D bP [v0,v7] s) fun x0=>some (.normal,[(2,v2),(7,v7),(12,x0.1)],x0.2):OR)) (get ρ 0) (get ρ 2) (get ρ 7):=zr
@[go_sem] theorem Xp:rc D b Da ρ s=(fun v2 v7 v12=>(aa (ab .neq v12 (.int .i64 0)) fun x0=>some (.normal,[(2,v2),(7,v7),(12,v12),(45,x0)],s):OR)) (get ρ 2) (get ρ 7) (get ρ 12):=zr
@[go_sem] theorem Wi:rc D b Ce ρ s=(fun v12=>(some (.normal,[(6,v12)],s):OR)) (get ρ 12):=zr
@[go_sem] theorem WG:rc D b C7 ρ s=(fun v2 v7=>(aa (ai v2) fun x0=>aa (stv b s 10 v7 x0) fun s1=>some (.normal,[],s1):OR)) (get ρ 2) (get ρ 7):=zr
@[go_sem] theorem Xt:rc D b DG ρ s= some (.normal,[(6,(.int .i64 0))],s):=zr
@[go_sem] theorem aas:rc D b LW ρ s=(fun v0=>(if V.ok v0 && aq false v0 then let x0:V:=.ptr (St.fresh s false) [] (V.tag v0); let s0:St:=St.new s false v0; let x1:V:=.ptr (St.fresh s0 false) [] 24; let s1:St:=St.new s0 false (.agg 24 (List.replicate 8 (.int .u64 0))); some (.normal,[(1,x0),(2,x1)],s1) else none:OR)) (get ρ 0):=zr
@[go_sem] theorem acb:rc D b IF ρ s=(fun v1 v2=>(let x0:V:=.ptr (St.fresh s false) [] 24; let s0:St:=St.new s false (.agg 24 (List.replicate 8 (.int .u64 0))); some (.normal,[(1,v1),(2,v2),(4,x0)],s0):OR)) (get ρ 1) (get ρ 2):=zr
@[go_sem] theorem aaA:rc D b Ps ρ s=(fun v1 v2 v4=>(aa (ldv s 60 v1) fun x0=>some (.normal,[(2,v2),(4,v4),(7,x0),(8,(.int .i64 0))],s):OR)) (get ρ 1) (get ρ 2) (get ρ 4):=zr
@[go_sem] theorem aa3:rc D b N0 ρ s=(fun v2 v4 v7 v8=>(aa (ab .lss v8 (.int .i64 7)) fun x0=>some (.normal,[(2,v2),(4,v4),(7,v7),(8,v8),(9,x0)],s):OR)) (get ρ 2) (get ρ 4) (get ρ 7) (get ρ 8):=zr
@[go_sem] theorem ae3:rc D b Kn ρ s=(fun v2 v4 v7 v8=>(aa (iq 60 7 v7 v8) fun x0=>some (.normal,[(2,v2),(4,v4),(5,v8),(6,x0),(7,v7),(8,v8)],s):OR)) (get ρ 2) (get ρ 4) (get ρ 7) (get ρ 8):=zr
@[go_sem] theorem aeh:rc D b Il ρ s=(fun v2 v4 v5 v6 v7 v8=>(aa (ab .lss v6 (.int .i64 0)) fun x0=>an x0 false (aa (ab .geq v6 (.int .i64 1024)) fun x1=>some (.normal,[(2,v2),(4,v4),(5,v5),(6,v6),(7,v7),(8,v8),(17,x1)],s)) (some (.normal,[(2,v2),(4,v4),(5,v5),(6,v6),(7,v7),(8,v8),(17,(.bool true))],s)) (none):OR)) (get ρ 2) (get ρ 4) (get ρ 5) (get ρ 6) (get ρ 7) (get ρ 8):=zr
@[go_sem] theorem aba:rc D b PQ ρ s=(fun v2=>(aa (ak (List.replicate 8 (.int .u64 0)) []) fun x0=>aa (stv b s 24 (.agg 24 x0) v2) fun s1=>some (.normal,[(2,v2),(3,(.int .i64 1))],s1):OR)) (get ρ 2):=zr
@[go_sem] theorem acf:rc D b Jk ρ s=(fun v2 v4 v5 v6 v7 v8=>(aa (c9 .u64 v6) fun x0=>aa (ab .or (.int .u64 4294967296) x0) fun x1=>aa (aY 24 8 18 v4 v5) fun x2=>aa (stv b s 18 x1 x2) fun s3=>some (.normal,[(2,v2),(4,v4),(7,v7),(8,v8)],s3):OR)) (get ρ 2) (get ρ 4) (get ρ 5) (get ρ 6) (get ρ 7) (get ρ 8):=zr
@[go_sem] theorem Ya:rc D b NK ρ s=(fun v2 v4 v7 v8=>(aa (ab .add v8 (.int .i64 1)) fun x0=>some (.normal,[(2,v2),(4,v4),(7,v7),(8,x0)],s):OR)) (get ρ 2) (get ρ 4) (get ρ 7) (get ρ 8):=zr
@[go_sem] theorem adC:rc D b PP ρ s=(fun v2 v4=>(aa (ldv s 24 v4) fun x0=>aa (rf D fQ [x0] s) fun x1=>aa (stv b x1.2 24 x1.1 v2) fun s2=>some (.normal,[(2,v2),(3,(.int .i64 0))],s2):OR)) (get ρ 2) (get ρ 4):=zr
@[go_sem] theorem ZZ:rc D b MQ ρ s=(fun v0 v1=>(some (.normal,[(0,v0),(1,v1)],s):OR)) (get ρ 0) (get ρ 1):=zr
@[go_sem] theorem YL:rc D b K0 ρ s=(fun v0 v1=>(aa (ab .lss v1 (.int .i64 0)) fun x0=>an x0 false (aa (ab .geq v1 (.int .i64 8)) fun x1=>some (.normal,[(0,v0),(1,v1),(13,x1)],s)) (some (.normal,[(0,v0),(1,v1),(13,(.bool true))],s)) (none):OR)) (get ρ 0) (get ρ 1):=zr
@[go_sem] theorem abv:rc D b KC ρ s= some (.normal,[(4,(.int .i64 1))],s):=zr
@[go_sem] theorem adD:rc D b Kg ρ s=(fun v0 v1=>(aa (rf D a8 [v0] s) fun x0=>some (.normal,[(0,v0),(1,v1),(5,x0.1)],x0.2):OR)) (get ρ 0) (get ρ 1):=zr
@[go_sem] theorem aaC:rc D b Kr ρ s=(fun v0 v1 v5=>(aa (ab .neq v5 (.int .i64 0)) fun x0=>some (.normal,[(0,v0),(1,v1),(5,v5),(17,x0)],s):OR)) (get ρ 0) (get ρ 1) (get ρ 5):=zr
@[go_sem] theorem ZK:rc D b ON ρ s=(fun v5=>(some (.normal,[(4,v5)],s):OR)) (get ρ 5):=zr
@[go_sem] theorem abY:rc D b NR ρ s=(fun v0 v1=>(aa (ai v0) fun x0=>aa (ae 59 0 1 x0) fun x1=>aa (ldv s 1 x1) fun x2=>aa (V.slen false x2) fun x3=>some (.normal,[(0,v0),(1,v1),(23,(.int .i64 x3)),(24,(.int .i64 0))],s):OR)) (get ρ 0) (get ρ 1):=zr
@[go_sem] theorem Yl:rc D b Nl ρ s=(fun v0 v1 v23 v24=>(aa (ab .lss v24 v23) fun x0=>some (.normal,[(0,v0),(1,v1),(23,v23),(24,v24),(25,x0)],s):OR)) (get ρ 0) (get ρ 1) (get ρ 23) (get ρ 24):=zr
@[go_sem] theorem aeE:rc D b LK ρ s=(fun v0 v1 v23 v24=>(some (.normal,[(0,v0),(1,v1),(6,v24),(23,v23),(24,v24)],s):OR)) (get ρ 0) (get ρ 1) (get ρ 23) (get ρ 24):=zr
@[go_sem] theorem ac9:rc D b I6 ρ s=(fun v0 v1 v6 v23 v24=>(aa (ai v0) fun x0=>aa (ae 59 0 1 x0) fun x1=>aa (ldv s 1 x1) fun x2=>aa (d6 55 x2 v6) fun x3=>some (.normal,[(0,v0),(1,v1),(7,x3),(23,v23),(24,v24)],s):OR)) (get ρ 0) (get ρ 1) (get ρ 6) (get ρ 23) (get ρ 24):=zr
@[go_sem] theorem Wg:rc D b Dz ρ s=(fun v0 v1 v7 v23 v24=>(aa (ai v7) fun x0=>aa (ae 55 3 50 x0) fun x1=>aa (aY 50 8 10 x1 v1) fun x2=>aa (ldv s 10 x2) fun x3=>aa (ab .gtr x3 (.int .i64 0)) fun x4=>some (.normal,[(0,v0),(1,v1),(7,v7),(23,v23),(24,v24),(39,x4)],s):OR)) (get ρ 0) (get ρ 1) (get ρ 7) (get ρ 23) (get ρ 24):=zr
@[go_sem] theorem WP:rc D b Eb ρ s=(fun v0 v1 v7 v23 v24=>(aa (ai v7) fun x0=>aa (ae 55 3 50 x0) fun x1=>aa (aY 50 8 10 x1 v1) fun x2=>aa (ldv s 10 x2) fun x3=>aa (rf D eX [v7,x3] s) fun x4=>some (.normal,[(0,v0),(1,v1),(23,v23),(24,v24)],x4.2):OR)) (get ρ 0) (get ρ 1) (get ρ 7) (get ρ 23) (get ρ 24):=zr
@[go_sem] theorem Xd:rc D b En ρ s=(fun v0 v1 v23 v24=>(aa (ab .add v24 (.int .i64 1)) fun x0=>some (.normal,[(0,v0),(1,v1),(23,v23),(24,x0)],s):OR)) (get ρ 0) (get ρ 1) (get ρ 23) (get ρ 24):=zr
@[go_sem] theorem WO:rc D b EI ρ s= some (.normal,[(4,(.int .i64 0))],s):=zr
@[go_sem] theorem adM:rc D b MF ρ s=(fun v0 v1 v2 v3=>(if V.ok v3 && aq false v3 then let x0:V:=.ptr (St.fresh s false) [] (V.tag v3); let s0:St:=St.new s false v3; some (.normal,[(0,v0),(1,v1),(2,v2),(7,x0)],s0) else none:OR)) (get ρ 0) (get ρ 1) (get ρ 2) (get ρ 3):=zr
@[go_sem] theorem aaH:rc D b LM ρ s=(fun v0 v1 v2 v7=>(aa (ldv s 44 v7) fun x0=>aa (rf D kf [x0] s) fun x1=>aa (aF 0 x1.1) fun x2=>aa (aF 1 x1.1) fun x3=>let x4:V:=.ptr (St.fresh x1.2 false) [] 24; let s4:St:=St.new x1.2 false (.agg 24 (List.replicate 8 (.int .u64 0))); aa (stv b s4 24 x2 x4) fun s5=>some (.normal,[(0,v0),(1,v1),(2,v2),(9,x4),(10,x3)],s5):OR)) (get ρ 0) (get ρ 1) (get ρ 2) (get ρ 7):=zr
@[go_sem] theorem adY:rc D b Mb ρ s=(fun v0 v1 v2 v9 v10=>(aa (ab .neq v10 (.int .i64 0)) fun x0=>an x0 false (aa (ab .neq v2 (.int .i64 0)) fun x1=>an x1 true (aa (ab .neq v2 (.int .i64 1)) fun x2=>some (.normal,[(0,v0),(1,v1),(2,v2),(9,v9),(30,x2)],s)) (some (.normal,[(0,v0),(1,v1),(2,v2),(9,v9),(30,(.bool false))],s)) (none)) (some (.normal,[(0,v0),(1,v1),(2,v2),(9,v9),(30,(.bool true))],s)) (none):OR)) (get ρ 0) (get ρ 1) (get ρ 2) (get ρ 9) (get ρ 10):=zr
@[go_sem] theorem aaO:rc D b Kc ρ s= some (.normal,[(8,(.int .i64 1))],s):=zr
@[go_sem] theorem ac7:rc D b LL ρ s=(fun v0 v1 v2 v9=>(aa (rf D aV [v0,v2,(.int .i64 7),(.int .u64 0)] s) fun x0=>some (.normal,[(0,v0),(1,v1),(2,v2),(9,v9),(11,x0.1)],x0.2):OR)) (get ρ 0) (get ρ 1) (get ρ 2) (get ρ 9):=zr
@[go_sem] theorem Zv:rc D b Ig ρ s=(fun v0 v1 v2 v9 v11=>(aa (ab .neq v11 (.int .i64 0)) fun x0=>some (.normal,[(0,v0),(1,v1),(2,v2),(9,v9),(11,v11),(35,x0)],s):OR)) (get ρ 0) (get ρ 1) (get ρ 2) (get ρ 9) (get ρ 11):=zr
@[go_sem] theorem YE:rc D b Ky ρ s=(fun v11=>(some (.normal,[(8,v11)],s):OR)) (get ρ 11):=zr
@[go_sem] theorem Yn:rc D b QQ ρ s=(fun v0 v1 v2 v9=>(aa (ldv s 24 v9) fun x0=>some (.normal,[(0,v0),(1,v1),(2,v2),(37,x0),(38,(.int .i64 0))],s):OR)) (get ρ 0) (get ρ 1) (get ρ 2) (get ρ 9):=zr
@[go_sem] theorem afR:rc D b O7 ρ s=(fun v0 v1 v2 v37 v38=>(aa (ab .lss v38 (.int .i64 8)) fun x0=>some (.normal,[(0,v0),(1,v1),(2,v2),(37,v37),(38,v38),(39,x0)],s):OR)) (get ρ 0) (get ρ 1) (get ρ 2) (get ρ 37) (get ρ 38):=zr
@[go_sem] theorem agC:rc D b PK ρ s=(fun v0 v1 v2 v37 v38=>(aa (iq 24 8 v37 v38) fun x0=>some (.normal,[(0,v0),(1,v1),(2,v2),(12,v38),(13,x0),(37,v37),(38,v38)],s):OR)) (get ρ 0) (get ρ 1) (get ρ 2) (get ρ 37) (get ρ 38):=zr
@[go_sem] theorem Wx:rc D b Dk ρ s=(fun v0 v1 v2 v12 v13 v37 v38=>(aa (rf D aV [v0,v2,v12,v13] s) fun x0=>some (.normal,[(0,v0),(1,v1),(2,v2),(14,x0.1),(37,v37),(38,v38)],x0.2):OR)) (get ρ 0) (get ρ 1) (get ρ 2) (get ρ 12) (get ρ 13) (get ρ 37) (get ρ 38):=zr
@[go_sem] theorem Wn:rc D b EW ρ s=(fun v0 v1 v2 v14 v37 v38=>(aa (ab .neq v14 (.int .i64 0)) fun x0=>some (.normal,[(0,v0),(1,v1),(2,v2),(14,v14),(37,v37),(38,v38),(48,x0)],s):OR)) (get ρ 0) (get ρ 1) (get ρ 2) (get ρ 14) (get ρ 37) (get ρ 38):=zr
@[go_sem] theorem WW:rc D b CX ρ s=(fun v14=>(some (.normal,[(8,v14)],s):OR)) (get ρ 14):=zr
@[go_sem] theorem Wm:rc D b CL ρ s=(fun v0 v1 v2 v37 v38=>(aa (ab .add v38 (.int .i64 1)) fun x0=>some (.normal,[(0,v0),(1,v1),(2,v2),(37,v37),(38,x0)],s):OR)) (get ρ 0) (get ρ 1) (get ρ 2) (get ρ 37) (get ρ 38):=zr
@[go_sem] theorem XG:rc D b Fo ρ s=(fun v0 v1 v2=>(aa (rf D cQ [v0,v1,v2] s) fun x0=>some (.normal,[(0,v0),(1,v1),(15,x0.1)],x0.2):OR)) (get ρ 0) (get ρ 1) (get ρ 2):=zr
@[go_sem] theorem WM:rc D b FB ρ s=(fun v0 v1 v15=>(aa (ab .neq v15 (.int .i64 0)) fun x0=>some (.normal,[(0,v0),(1,v1),(15,v15),(56,x0)],s):OR)) (get ρ 0) (get ρ 1) (get ρ 15):=zr
@[go_sem] theorem XB:rc D b CT ρ s=(fun v15=>(some (.normal,[(8,v15)],s):OR)) (get ρ 15):=zr
@[go_sem] theorem Xg:rc D b CC ρ s=(fun v0 v1=>(aa (rf D cT [v0,v1] s) fun x0=>some (.normal,[(8,x0.1)],x0.2):OR)) (get ρ 0) (get ρ 1):=zr
@[go_sem] theorem Zk:rc D b MX ρ s=(fun v0 v1=>(if V.ok v1 && aq false v1 then let x0:V:=.ptr (St.fresh s false) [] (V.tag v1); let s0:St:=St.new s false v1; some (.normal,[(0,v0),(3,x0)],s0) else none:OR)) (get ρ 0) (get ρ 1):=zr
@[go_sem] theorem ae0:rc D b KK ρ s=(fun v0 v3=>(aa (ai v0) fun x0=>aa (ae 43 6 0 x0) fun x1=>aa (ldv s 0 x1) fun x2=>aa (vun .not x2) fun x3=>some (.normal,[(0,v0),(3,v3),(9,x3)],s):OR)) (get ρ 0) (get ρ 3):=zr
@[go_sem] theorem agr:rc D b LE ρ s= some (.normal,[(4,(.int .i64 3))],s):=zr
@[go_sem] theorem afO:rc D b No ρ s=(fun v0 v3=>(aa (ai v0) fun x0=>aa (ae 43 5 48 x0) fun x1=>aa (ldv s 48 x1) fun x2=>aa (ldv s 50 v3) fun x3=>aa (ai v0) fun x4=>aa (ae 43 3 48 x4) fun x5=>aa (o5 b s 48 x2 x5 [v3]) fun s6=>aa (ai v0) fun x7=>aa (ae 43 4 50 x7) fun x8=>aa (stv b s6 50 x3 x8) fun s9=>some (.normal,[(0,v0)],s9):OR)) (get ρ 0) (get ρ 3):=zd
@[go_sem] theorem aap:rc D b Ie ρ s=(fun v0=>(aa (rf D bM [v0] s) fun x0=>some (.normal,[],x0.2):OR)) (get ρ 0):=zr
@[go_sem] theorem afZ:rc D b Pz ρ s= some (.normal,[(4,(.int .i64 0))],s):=zr
@[go_sem] theorem abo:rc D b Mw ρ s=(fun v0=>(aa (ai v0) fun x0=>aa (ae 43 6 0 x0) fun x1=>aa (stv b s 0 (.bool false) x1) fun s2=>some (.normal,[(0,v0)],s2):OR)) (get ρ 0):=zr
@[go_sem] theorem Zl:rc D b JW ρ s=(fun v0=>(aa (rf D bl [v0] s) fun x0=>some (.normal,[(0,v0)],x0.2):OR)) (get ρ 0):=zr
@[go_sem] theorem afK:rc D b PS ρ s=(fun v0=>(aa (ai v0) fun x0=>aa (ae 43 7 82 x0) fun x1=>aa (ldv s 82 x1) fun x2=>let x3:V:=.ptr (St.fresh s false) [] 82; let s3:St:=St.new s false (.agg 82 (List.replicate 1024 (.bool false))); aa (stv b s3 82 x2 x3) fun s4=>some (.normal,[(0,v0),(2,x3)],s4):OR)) (get ρ 0):=zr
@[go_sem] theorem agA:rc D b Md ρ s=(fun v0 v2=>(aa (ai v0) fun x0=>aa (ae 43 2 48 x0) fun x1=>aa (ldv s 48 x1) fun x2=>aa (rf D be [v2,x2] s) fun x3=>some (.normal,[(0,v0),(2,v2)],x3.2):OR)) (get ρ 0) (get ρ 2):=zr
@[go_sem] theorem aeG:rc D b Km ρ s=(fun v0 v2=>(aa (ai v0) fun x0=>aa (ae 43 4 50 x0) fun x1=>aa (ldv s 50 x1) fun x2=>some (.normal,[(0,v0),(2,v2),(23,x2),(24,(.int .i64 0))],s):OR)) (get ρ 0) (get ρ 2):=zr
@[go_sem] theorem ZJ:rc D b O2 ρ s=(fun v0 v2 v23 v24=>(aa (ab .lss v24 (.int .i64 8)) fun x0=>some (.normal,[(0,v0),(2,v2),(23,v23),(24,v24),(25,x0)],s):OR)) (get ρ 0) (get ρ 2) (get ρ 23) (get ρ 24):=zr
@[go_sem] theorem afw:rc D b Pf ρ s=(fun v0 v2 v23 v24=>(aa (iq 50 8 v23 v24) fun x0=>some (.normal,[(0,v0),(2,v2),(4,x0),(23,v23),(24,v24)],s):OR)) (get ρ 0) (get ρ 2) (get ρ 23) (get ρ 24):=zr
@[go_sem] theorem aah:rc D b J0 ρ s=(fun v0 v2 v4 v23 v24=>(aa (ab .geq v4 (.int .i64 0)) fun x0=>an x0 true (aa (ab .lss v4 (.int .i64 1024)) fun x1=>some (.normal,[(0,v0),(2,v2),(4,v4),(23,v23),(24,v24),(32,x1)],s)) (some (.normal,[(0,v0),(2,v2),(4,v4),(23,v23),(24,v24),(32,(.bool false))],s)) (none):OR)) (get ρ 0) (get ρ 2) (get ρ 4) (get ρ 23) (get ρ 24):=zr
@[go_sem] theorem aaE:rc D b JT ρ s=(fun v0 v2 v4 v23 v24=>(aa (aY 82 1024 0 v2 v4) fun x0=>aa (stv b s 0 (.bool true) x0) fun s1=>some (.normal,[(0,v0),(2,v2),(23,v23),(24,v24)],s1):OR)) (get ρ 0) (get ρ 2) (get ρ 4) (get ρ 23) (get ρ 24):=zr
@[go_sem] theorem aet:rc D b Pb ρ s=(fun v0 v2 v23 v24=>(aa (ab .add v24 (.int .i64 1)) fun x0=>some (.normal,[(0,v0),(2,v2),(23,v23),(24,x0)],s):OR)) (get ρ 0) (get ρ 2) (get ρ 23) (get ρ 24):=zr
@[go_sem] theorem Xy:rc D b C3 ρ s=(fun v0 v2=>(aa (ai v0) fun x0=>aa (ae 43 0 1 x0) fun x1=>aa (ldv s 1 x1) fun x2=>aa (rf D bC [x2] s) fun x3=>some (.normal,[(0,v0),(2,v2),(40,x3.1),(41,(.int .i64 0))],x3.2):OR)) (get ρ 0) (get ρ 2):=zr
@[go_sem] theorem WJ:rc D b B9 ρ s=(fun v0 v2 v40 v41=>(aa (ab .lss v41 v40) fun x0=>some (.normal,[(0,v0),(2,v2),(40,v40),(41,v41),(42,x0)],s):OR)) (get ρ 0) (get ρ 2) (get ρ 40) (get ρ 41):=zr
@[go_sem] theorem Xx:rc D b C9 ρ s=(fun v0 v2 v40 v41=>(some (.normal,[(0,v0),(2,v2),(5,v41),(40,v40),(41,v41)],s):OR)) (get ρ 0) (get ρ 2) (get ρ 40) (get ρ 41):=zr
@[go_sem] theorem XL:rc D b DZ ρ s=(fun v0 v2 v5 v40 v41=>(aa (aY 82 1024 0 v2 v5) fun x0=>aa (ldv s 0 x0) fun x1=>aa (vun .not x1) fun x2=>an x2 true (aa (ai v0) fun x3=>aa (ae 43 1 1 x3) fun x4=>aa (ldv s 1 x4) fun x5=>aa (rf D bA [x5,v5] s) fun x6=>aa (ab .eql x6.1 (.int .i64 1)) fun x7=>some (.normal,[(0,v0),(2,v2),(5,v5),(40,v40),(41,v41),(56,x7)],x6.2)) (some (.normal,[(0,v0),(2,v2),(5,v5),(40,v40),(41,v41),(56,(.bool false))],s)) (none):OR)) (get ρ 0) (get ρ 2) (get ρ 5) (get ρ 40) (get ρ 41):=zr
@[go_sem] theorem WF:rc D b Dy ρ s=(fun v0 v2 v5 v40 v41=>(aa (ai v0) fun x0=>aa (ae 43 1 1 x0) fun x1=>aa (ldv s 1 x1) fun x2=>aa (rf D bV [x2,v5] s) fun x3=>some (.normal,[(0,v0),(2,v2),(40,v40),(41,v41)],x3.2):OR)) (get ρ 0) (get ρ 2) (get ρ 5) (get ρ 40) (get ρ 41):=zr
@[go_sem] theorem Wu:rc D b CI ρ s=(fun v0 v2 v40 v41=>(aa (ab .add v41 (.int .i64 1)) fun x0=>some (.normal,[(0,v0),(2,v2),(40,v40),(41,x0)],s):OR)) (get ρ 0) (get ρ 2) (get ρ 40) (get ρ 41):=zr
@[go_sem] theorem XC:rc D b B8 ρ s=(fun v0=>(aa (ai v0) fun x0=>aa (ae 43 1 1 x0) fun x1=>aa (ldv s 1 x1) fun x2=>aa (rf D cG [x2] s) fun x3=>some (.normal,[],x3.2):OR)) (get ρ 0):=zr
@[go_sem] theorem abJ:rc D b Im ρ s=(fun v0 v1=>(some (.normal,[(0,v0),(1,v1)],s):OR)) (get ρ 0) (get ρ 1):=zr
@[go_sem] theorem acS:rc D b Jn ρ s=(fun v0 v1=>(aa (ab .lss v1 (.int .i64 0)) fun x0=>an x0 false (aa (ai v0) fun x1=>aa (ae 59 0 1 x1) fun x2=>aa (ldv s 1 x2) fun x3=>aa (V.slen false x3) fun x4=>aa (ab .geq v1 (.int .i64 x4)) fun x5=>some (.normal,[(0,v0),(1,v1),(15,x5)],s)) (some (.normal,[(0,v0),(1,v1),(15,(.bool true))],s)) (none):OR)) (get ρ 0) (get ρ 1):=zr
@[go_sem] theorem Yo:rc D b JD ρ s= some (.normal,[(4,.nilp)],s):=zr
@[go_sem] theorem ae1:rc D b M4 ρ s=(fun v0 v1=>(aa (ai v0) fun x0=>aa (ae 59 0 1 x0) fun x1=>aa (ldv s 1 x1) fun x2=>aa (d6 55 x2 v1) fun x3=>some (.normal,[(4,x3)],s):OR)) (get ρ 0) (get ρ 1):=zr
@[go_sem] theorem aaf:rc D b PE ρ s=(fun v0=>(if V.ok v0 && aq false v0 then let x0:V:=.ptr (St.fresh s false) [] (V.tag v0); let s0:St:=St.new s false v0; some (.normal,[(1,x0)],s0) else none:OR)) (get ρ 0):=zr
@[go_sem] theorem YF:rc D b Mg ρ s=(fun v1=>(aa (ae 42 0 10 v1) fun x0=>aa (ldv s 10 x0) fun x1=>aa (ab .lss x1 (.int .i64 0)) fun x2=>an x2 false (aa (ae 42 0 10 v1) fun x3=>aa (ldv s 10 x3) fun x4=>aa (ab .gtr x4 (.int .i64 4)) fun x5=>an x5 false (aa (ae 42 1 10 v1) fun x6=>aa (ldv s 10 x6) fun x7=>aa (ab .lss x7 (.int .i64 0)) fun x8=>an x8 false (aa (ae 42 1 10 v1) fun x9=>aa (ldv s 10 x9) fun x10=>aa (ab .gtr x10 (.int .i64 16777215)) fun x11=>an x11 false (aa (ae 42 2 10 v1) fun x12=>aa (ldv s 10 x12) fun x13=>aa (ab .lss x13 (.int .i64 0)) fun x14=>an x14 false (aa (ae 42 2 10 v1) fun x15=>aa (ldv s 10 x15) fun x16=>aa (ab .geq x16 (.int .i64 1024)) fun x17=>an x17 false (aa (ae 42 0 10 v1) fun x18=>aa (ldv s 10 x18) fun x19=>aa (ab .eql x19 (.int .i64 0)) fun x20=>an x20 true (aa (ae 42 2 10 v1) fun x21=>aa (ldv s 10 x21) fun x22=>aa (ab .neq x22 (.int .i64 0)) fun x23=>some (.normal,[(1,v1),(43,x23)],s)) (some (.normal,[(1,v1),(43,(.bool false))],s)) (none)) (some (.normal,[(1,v1),(43,(.bool true))],s)) (none)) (some (.normal,[(1,v1),(43,(.bool true))],s)) (none)) (some (.normal,[(1,v1),(43,(.bool true))],s)) (none)) (some (.normal,[(1,v1),(43,(.bool true))],s)) (none)) (some (.normal,[(1,v1),(43,(.bool true))],s)) (none)) (some (.normal,[(1,v1),(43,(.bool true))],s)) (none):OR)) (get ρ 1):=zr
@[go_sem] theorem afH:rc D b PW ρ s= some (.normal,[(2,(.int .u64 0)),(3,(.int .i64 1))],s):=zr
@[go_sem] theorem YS:rc D b PA ρ s=(fun v1=>(aa (ae 42 0 10 v1) fun x0=>aa (ldv s 10 x0) fun x1=>aa (c9 .u64 x1) fun x2=>aa (rf D aR [(.int .u64 0),(.int .i64 0),(.int .i64 4),x2] s) fun x3=>aa (aF 0 x3.1) fun x4=>aa (aF 1 x3.1) fun _x5=>some (.normal,[(1,v1),(4,x4)],x3.2):OR)) (get ρ 1):=zr
@[go_sem] theorem aek:rc D b If ρ s=(fun v1 v4=>(aa (ae 42 1 10 v1) fun x0=>aa (ldv s 10 x0) fun x1=>aa (c9 .u64 x1) fun x2=>aa (rf D aR [v4,(.int .i64 4),(.int .i64 24),x2] s) fun x3=>aa (aF 0 x3.1) fun x4=>aa (aF 1 x3.1) fun _x5=>some (.normal,[(1,v1),(4,x4)],x3.2):OR)) (get ρ 1) (get ρ 4):=zr
@[go_sem] theorem aec:rc D b Ij ρ s=(fun v1 v4=>(aa (ae 42 2 10 v1) fun x0=>aa (ldv s 10 x0) fun x1=>aa (c9 .u64 x1) fun x2=>aa (rf D aR [v4,(.int .i64 28),(.int .i64 16),x2] s) fun x3=>aa (aF 0 x3.1) fun x4=>aa (aF 1 x3.1) fun x5=>some (.normal,[(2,x4),(3,x5)],x3.2):OR)) (get ρ 1) (get ρ 4):=zr
@[go_sem] theorem abq:rc D b Mz ρ s=(fun v0=>(if V.ok v0 && aq false v0 then let x0:V:=.ptr (St.fresh s false) [] (V.tag v0); let s0:St:=St.new s false v0; let x1:V:=.ptr (St.fresh s0 false) [] 24; let s1:St:=St.new s0 false (.agg 24 (List.replicate 8 (.int .u64 0))); some (.normal,[(1,x0),(2,x1)],s1) else none:OR)) (get ρ 0):=zr
@[go_sem] theorem aa2:rc D b NF ρ s=(fun v1 v2=>(aa (ldv s 24 v1) fun x0=>aa (rf D dN [x0] s) fun x1=>let x2:V:=.ptr (St.fresh x1.2 false) [] 108; let s2:St:=St.new x1.2 false (.agg 108 (List.replicate 64 (.int .u8 0))); aa (stv b s2 108 x1.1 x2) fun s3=>some (.normal,[(1,v1),(2,v2),(3,x2)],s3):OR)) (get ρ 1) (get ρ 2):=zr
@[go_sem] theorem agx:rc D b NX ρ s=(fun v1 v2 v3=>(aa (jW s 108 64 12 none (some (.int .i64 56)) none v3) fun x0=>aa (rf D eu [x0] s) fun x1=>aa (c9 .u64 x1.1) fun x2=>aa (ab .or x2 (.int .u64 4294967296)) fun x3=>aa (aY 24 8 18 v1 (.int .i64 7)) fun x4=>aa (stv b x1.2 18 x3 x4) fun s5=>some (.normal,[(1,v1),(2,v2)],s5):OR)) (get ρ 1) (get ρ 2) (get ρ 3):=zr
@[go_sem] theorem acN:rc D b PC ρ s=(fun v1 v2=>(aa (ldv s 24 v1) fun x0=>aa (stv b s 24 x0 v2) fun s1=>some (.normal,[(2,v2)],s1):OR)) (get ρ 1) (get ρ 2):=zr
@[go_sem] theorem adG:rc D b Kj ρ s=(fun v0 v1 v2=>(some (.normal,[(0,v0),(1,v1),(2,v2)],s):OR)) (get ρ 0) (get ρ 1) (get ρ 2):=zr
@[go_sem] theorem adV:rc D b Ix ρ s=(fun v0 v1 v2=>(aa (rf D bA [v0,v1] s) fun x0=>some (.normal,[(2,v2),(9,x0.1)],x0.2):OR)) (get ρ 0) (get ρ 1) (get ρ 2):=zr
@[go_sem] theorem Zb:rc D b LI ρ s=(fun v2 v9=>(aa (ab .eql v9 (.int .i64 (-1))) fun x0=>some (.normal,[(2,v2),(9,v9),(10,x0)],s):OR)) (get ρ 2) (get ρ 9):=zr
@[go_sem] theorem adT:rc D b NU ρ s= some (.normal,[(6,(.int .i64 1))],s):=zr
@[go_sem] theorem ac2:rc D b Q7 ρ s=(fun v2 v9=>(aa (ab .eql v9 v2) fun x0=>some (.normal,[(12,x0)],s):OR)) (get ρ 2) (get ρ 9):=zr
@[go_sem] theorem afi:rc D b Qb ρ s= some (.normal,[(6,(.int .i64 0))],s):=zr
@[go_sem] theorem acT:rc D b Pn ρ s= some (.normal,[(6,(.int .i64 3))],s):=zr
@[go_sem] theorem adL:rc D b Qy ρ s=(fun v0 v1=>(if V.ok v1 && aq false v1 then let x0:V:=.ptr (St.fresh s false) [] (V.tag v1); let s0:St:=St.new s false v1; some (.normal,[(0,v0),(3,x0)],s0) else none:OR)) (get ρ 0) (get ρ 1):=zr
@[go_sem] theorem aft:rc D b OX ρ s=(fun v0 v3=>(aa (ldv s 48 v3) fun x0=>some (.normal,[(0,v0),(6,x0),(7,(.int .i64 0))],s):OR)) (get ρ 0) (get ρ 3):=zr
@[go_sem] theorem adq:rc D b KL ρ s=(fun v0 v6 v7=>(aa (ab .lss v7 (.int .i64 49)) fun x0=>some (.normal,[(0,v0),(6,v6),(7,v7),(8,x0)],s):OR)) (get ρ 0) (get ρ 6) (get ρ 7):=zr
@[go_sem] theorem ads:rc D b Qu ρ s=(fun v0 v6 v7=>(aa (iq 48 49 v6 v7) fun x0=>let x1:V:=.ptr (St.fresh s false) [] 42; let s1:St:=St.new s false (.agg 42 [(.int .i64 0),(.int .i64 0),(.int .i64 0)]); aa (stv b s1 42 x0 x1) fun s2=>some (.normal,[(0,v0),(5,x1),(6,v6),(7,v7)],s2):OR)) (get ρ 0) (get ρ 6) (get ρ 7):=zr
@[go_sem] theorem YX:rc D b KX ρ s=(fun v0 v5 v6 v7=>(aa (ae 42 0 10 v5) fun x0=>aa (ldv s 10 x0) fun x1=>aa (ab .neq x1 (.int .i64 0)) fun x2=>some (.normal,[(0,v0),(5,v5),(6,v6),(7,v7),(12,x2)],s):OR)) (get ρ 0) (get ρ 5) (get ρ 6) (get ρ 7):=zr
@[go_sem] theorem afG:rc D b IQ ρ s=(fun v0 v5 v6 v7=>(aa (ae 42 2 10 v5) fun x0=>aa (ldv s 10 x0) fun x1=>aa (ai v0) fun x2=>aa (aY 82 1024 0 x2 x1) fun x3=>aa (stv b s 0 (.bool true) x3) fun s4=>some (.normal,[(0,v0),(6,v6),(7,v7)],s4):OR)) (get ρ 0) (get ρ 5) (get ρ 6) (get ρ 7):=zd
@[go_sem] theorem aay:rc D b O5 ρ s=(fun v0 v6 v7=>(aa (ab .add v7 (.int .i64 1)) fun x0=>some (.normal,[(0,v0),(6,v6),(7,x0)],s):OR)) (get ρ 0) (get ρ 6) (get ρ 7):=zr
@[go_sem] theorem agu:rc D b KO ρ s=(fun v0=>(some (.normal,[(0,v0)],s):OR)) (get ρ 0):=zr
@[go_sem] theorem ad9:rc D b MP ρ s=(fun v0=>(aa (ai v0) fun x0=>aa (ae 59 2 0 x0) fun x1=>aa (ldv s 0 x1) fun x2=>an x2 true (aa (ai v0) fun x3=>aa (ae 59 3 10 x3) fun x4=>aa (ldv s 10 x4) fun x5=>aa (ab .eql x5 (.int .i64 0)) fun x6=>some (.normal,[(0,v0),(13,x6)],s)) (some (.normal,[(0,v0),(13,(.bool false))],s)) (none):OR)) (get ρ 0):=zr
@[go_sem] theorem adF:rc D b QT ρ s=(fun v0=>(aa (ai v0) fun x0=>aa (ae 59 1 0 x0) fun x1=>aa (stv b s 0 (.bool true) x1) fun s2=>some (.normal,[(0,v0)],s2):OR)) (get ρ 0):=zr
@[go_sem] theorem aef:rc D b Mr ρ s=(fun v0=>(aa (ai v0) fun x0=>aa (ae 59 1 0 x0) fun x1=>aa (ldv s 0 x1) fun x2=>some (.normal,[(0,v0),(20,x2)],s):OR)) (get ρ 0):=zr
@[go_sem] theorem afC:rc D b JU ρ s= some (.normal,[(2,(.int .i64 4))],s):=zr
@[go_sem] theorem ae6:rc D b QI ρ s=(fun v0=>(aa (ai v0) fun x0=>aa (ae 59 2 0 x0) fun x1=>aa (ldv s 0 x1) fun x2=>some (.normal,[(0,v0),(24,x2)],s):OR)) (get ρ 0):=zr
@[go_sem] theorem aeK:rc D b ML ρ s=(fun v0=>(aa (ai v0) fun x0=>aa (ae 59 3 10 x0) fun x1=>aa (ldv s 10 x1) fun x2=>aa (ab .sub x2 (.int .i64 1)) fun x3=>aa (ai v0) fun x4=>aa (ae 59 3 10 x4) fun x5=>aa (stv b s 10 x3 x5) fun s6=>some (.normal,[(0,v0)],s6):OR)) (get ρ 0):=zr
@[go_sem] theorem aeO:rc D b QX ρ s=(fun v0=>(aa (ai v0) fun x0=>aa (ae 59 4 10 x0) fun x1=>aa (ldv s 10 x1) fun x2=>aa (ab .add x2 (.int .i64 1)) fun x3=>aa (ai v0) fun x4=>aa (ae 59 4 10 x4) fun x5=>aa (stv b s 10 x3 x5) fun s6=>some (.normal,[],s6):OR)) (get ρ 0):=zr
@[go_sem] theorem adW:rc D b Iz ρ s= some (.normal,[(2,(.int .i64 0))],s):=zr
@[go_sem] theorem aer:rc D b Mu ρ s=(fun v0=>(if V.ok v0 && aq false v0 then let x0:V:=.ptr (St.fresh s false) [] (V.tag v0); let s0:St:=St.new s false v0; some (.normal,[(1,x0)],s0) else none:OR)) (get ρ 0):=zr
@[go_sem] theorem aeA:rc D b IB ρ s=(fun v1=>(aa (ae 42 0 10 v1) fun x0=>aa (ldv s 10 x0) fun x1=>aa (ab .eql x1 (.int .i64 0)) fun x2=>an x2 true (aa (ae 42 1 10 v1) fun x3=>aa (ldv s 10 x3) fun x4=>aa (ab .lss x4 (.int .i64 16777215)) fun x5=>some (.normal,[(2,x5)],s)) (some (.normal,[(2,(.bool false))],s)) (none):OR)) (get ρ 1):=zr
@[go_sem] theorem agG:rc D b Oi ρ s=(fun v0=>(if V.ok v0 && aq false v0 then let x0:V:=.ptr (St.fresh s false) [] (V.tag v0); let s0:St:=St.new s false v0; some (.normal,[(1,x0)],s0) else none:OR)) (get ρ 0):=zr
@[go_sem] theorem adE:rc D b Oc ρ s=(fun v1=>(aa (ae 42 0 10 v1) fun x0=>aa (ldv s 10 x0) fun x1=>aa (rf D cU [x1,(.int .i64 0),(.int .i64 4)] s) fun x2=>aa (vun .not x2.1) fun x3=>an x3 false (aa (ae 42 1 10 v1) fun x4=>aa (ldv x2.2 10 x4) fun x5=>aa (rf D cU [x5,(.int .i64 0),(.int .i64 16777215)] x2.2) fun x6=>aa (vun .not x6.1) fun x7=>an x7 false (aa (ae 42 2 10 v1) fun x8=>aa (ldv x6.2 10 x8) fun x9=>aa (rf D cU [x9,(.int .i64 0),(.int .i64 1023)] x6.2) fun x10=>aa (vun .not x10.1) fun x11=>an x11 false (aa (ae 42 0 10 v1) fun x12=>aa (ldv x10.2 10 x12) fun x13=>aa (ab .eql x13 (.int .i64 0)) fun x14=>an x14 true (aa (ae 42 2 10 v1) fun x15=>aa (ldv x10.2 10 x15) fun x16=>aa (ab .neq x16 (.int .i64 0)) fun x17=>some (.normal,[(1,v1),(29,x17)],x10.2)) (some (.normal,[(1,v1),(29,(.bool false))],x10.2)) (none)) (some (.normal,[(1,v1),(29,(.bool true))],x10.2)) (none)) (some (.normal,[(1,v1),(29,(.bool true))],x6.2)) (none)) (some (.normal,[(1,v1),(29,(.bool true))],x2.2)) (none):OR)) (get ρ 1):=zr
end
end Go.Proofs.YtmimfopnhmmlbaaDoor
