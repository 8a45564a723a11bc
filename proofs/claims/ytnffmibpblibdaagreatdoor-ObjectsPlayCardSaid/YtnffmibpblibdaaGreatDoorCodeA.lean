/-
  YtnffmibpblibdaaGreatDoorCode: the code of the functions that this seat's laws reach, in the form of Ab1 (printed by a program out of the translation; held against it in YtnffmibpblibdaaGreatDoorChk).
-/
import Derived.Test.YtnffmibpblibdaaGreatDoorAbG
import Derived.KernelRfl
set_option maxRecDepth 100000
namespace Go.Proofs.YtnffmibpblibdaaGreatDoor
open Go.Ab
noncomputable section
variable {b : Nat} {ρ : Env} {s : St}
def xF : V := .ptr (.hp 0) [] 108
@[go_sem] theorem WK : xF = .ptr (.hp 0) [] 108 := nd rfl
def mK : List Int := [0, 1, 56, 2, 57, 49, 28, 3, 61, 58, 42, 50, 38, 29, 17, 4, 62, 47, 59, 36, 45, 43, 51, 22, 53, 39, 33, 30, 24, 18, 12, 5, 63, 55, 48, 27, 60, 41, 37, 16, 46, 35, 44, 21, 52, 32, 23, 11, 54, 26, 40, 15, 34, 20, 31, 10, 25, 14, 19, 9, 13, 8, 7, 6]
def dC : V := .agg 108 (mK.map (.int .u8))
def G : List Blk := [.ro dC]
def iA:Nat:=3
def fb:Nat:=4
def aC:Nat:=5
def kA:Nat:=6
def eh:Nat:=7
def dG:Nat:=8
def ct:Nat:=9
def bp:Nat:=10
def bx:Nat:=11
def ix:Nat:=12
def cT:Nat:=13
def fS:Nat:=14
def aU:Nat:=15
def gT:Nat:=16
def fL:Nat:=17
def cm:Nat:=18
def bU:Nat:=19
def cW:Nat:=20
def fG:Nat:=21
def eN:Nat:=22
def dN:Nat:=23
def dR:Nat:=24
def cY:Nat:=25
def bN:Nat:=26
def bE:Nat:=27
def fN:Nat:=28
def gW:Nat:=29
def cA:Nat:=30
def aW:Nat:=31
def cI:Nat:=32
def gp:Nat:=33
def iQ:Nat:=34
def cj:Nat:=35
def cl:Nat:=36
def bB:Nat:=37
def d9:Nat:=38
def aK:Nat:=39
def br:Nat:=40
def bD:Nat:=41
def eL:Nat:=42
def em:Nat:=43
def dU:Nat:=44
def dA:Nat:=45
def bg:Nat:=46
def bw:Nat:=47
def dQ:Nat:=48
def bq:Nat:=49
def dL:Nat:=50
def du:Nat:=51
def gv:Nat:=52
def dM:Nat:=53
def dt:Nat:=54
def eW:Nat:=55
def cO:Nat:=56
def fM:Nat:=57
def da:Nat:=58
def cX:Nat:=59
def bz:Nat:=60
def aX:Nat:=61
def kw:Nat:=62
def km:Nat:=63
def dw:Nat:=64
def fa:Nat:=65
def kL:Nat:=66
def fH:Nat:=67
def fU:Nat:=68
def eZ:Nat:=69
def ei:Nat:=70
def aI:Nat:=71
def fF:Nat:=72
def bH:Nat:=73
def dp:Nat:=74
def aY:Nat:=75
def cg:Nat:=76
def bv:Nat:=77
def aN:Nat:=78
def dq:Nat:=79
def ep:Nat:=80
def eJ:Nat:=81
def aZ:Nat:=82
def bn:Nat:=83
def bI:Nat:=84
def dg:Nat:=85
def mi:Nat:=86
def bd:Nat:=87
def f6:Nat:=88
def cv:Nat:=89
def bC:Nat:=90
def bc:Nat:=91
def m6:Nat:=92
def aL:Nat:=93
def fJ:Nat:=94
def ca:Nat:=95
def cJ:Nat:=96
def db:Nat:=97
def cH:Nat:=98
def dI:Nat:=99
def bV:Nat:=100
def dB:Nat:=101
def be:Nat:=102
def aQ:Nat:=103
def dP:Nat:=104
def Vh:C:=zR [1,2,3] [zq 3 (.box false 0),zm 6 (.k (.bool false))]
def UN:C:=zR [1,2,3,7] [zC 46 (zf fb) [],zm 7 46]
def Uo:C:=zR [1,2,3,7,8] [zq 47 (.iad 22 2 10 3 (zi 0)),zL 48 10 47,zC 49 (zf aC) [48,(zi 64)],zB 50 .add (zi 64) 49,zm 8 50]
def Vx:C:=zR [1,2,3,7,8,9] [zm 52 8,zC 53 (zf kA) [52],zm 51 53,zE 54 51 0,zE 55 51 1,zm 9 54,zm 10 55]
def VF:C:=zR [1,2,3,7,8,9,11] [zm 57 8,zC 58 (zf eh) [57],zm 56 58,zE 59 56 0,zE 60 56 1,zm 11 59,zm 12 60]
def U3:C:=zR [1,2,3,8,9,11,66] [zm 61 7,zq 62 (.un .not 61),zm 63 62,zg 64 63 false (.mv 9),zg 65 63 false (.eq false 1 64 (.k .nilp)),zP 66 63 (.k (.bool true)) 65]
def VJ:C:=zR [6] [zm 6 (.k (.bool false))]
def US:C:=zR [1,2,3,8,9,11,13,14] [zm 68 9,zq 69 (.iad 22 2 10 3 (zi 1)),zL 70 10 69,zC 71 (zf aC) [70,(zi 31)],zC 72 (zf ct) [71],zC 73 (zf bp) [],zC 74 (zf dG) [68,(zi 10),72,73],zm 67 74,zE 75 67 0,zE 76 67 1,zm 13 75,zm 14 76]
def Vq:C:=zR [1,2,8,9,11,13,14,15,16] [zm 78 11,zq 79 (.iad 22 2 10 3 (zi 1)),zL 80 10 79,zC 81 (zf aC) [80,(zi 31)],zC 82 (zf ct) [81],zC 83 (zf bp) [],zC 84 (zf bx) [78,(zi 10),82,83],zm 77 84,zE 85 77 0,zE 86 77 1,zm 15 85,zm 16 86]
def Uu:C:=zR [1,2,8,9,11,13,15,96] [zm 87 13,zq 88 (.eq false 1 87 (.k .nilp)),zm 89 88,zg 90 89 false (.mv 14),zg 91 89 false (.bin .neq 90 (zi 0)),zP 92 89 (.k (.bool true)) 91,zm 93 92,zg 94 93 false (.mv 16),zg 95 93 false (.bin .neq 94 (zi 0)),zP 96 93 (.k (.bool true)) 95]
def QR:C:=zR [6] [zm 6 (.k (.bool false))]
def II:C:=zR [1,2,8,9,11,13,15] [zm 97 9,zm 98 2,zC 99 (zf ix) [97,98]]
def Sc:C:=zR [1,8,9,11,13,15] [zm 100 11,zm 101 2,zC 102 (zf cT) [100,101]]
def LI:C:=zR [1,8,9,11,13,15,17] [zq 103 (.bsl false 38 10 (.int .i64 0) 0 []),zm 17 103]
def Jv:C:=zR [1,8,9,11,13,15,17,18] [zm 18 (zi 0)]
def Jd:C:=zR [1,8,9,11,13,15,17,18,111] [zm 104 18,zm 105 1,zq 106 (.len false 105),zB 107 .lss 104 106,zm 108 107,zg 109 108 true (.mv 18),zg 110 108 true (.bin .lss 109 (zi 80)),zP 111 108 110 (.k (.bool false))]
def R8:C:=zR [1,8,9,11,13,15,17,18,19] [zm 114 1,zm 115 18,zq 116 (.sad 54 114 115),zL 117 54 116,zq 19 (.alloc false (.agg 54 [(.int .i64 0),(.int .i64 0),(.int .i64 0),(.int .u64 0)])),zS 54 19 117]
def IQ:C:=zR [1,8,9,11,13,15,17,18,19,121] [zF 118 54 0 10 19,zL 119 10 118,zC 120 (zf aC) [119,(zi 12)],zB 121 .eql 120 (zi 7)]
def K6:C:=zR [1,8,9,11,13,15,17,18,19,20,21] [zm 123 13,zC 124 (zf fS) [123],zm 122 124,zE 125 122 0,zE 126 122 1,zm 20 125,zm 21 126]
def JI:C:=zR [1,8,9,11,13,15,17,18,19,20,21,22,23] [zm 128 15,zN 129 128,zF 130 31 1 1 129,zL 131 1 130,zC 132 (zf aU) [131],zm 127 132,zE 133 127 0,zE 134 127 1,zm 22 133,zm 23 134]
def NO:C:=zR [1,8,9,11,13,15,17,18,19,20,21,142] [zm 135 20,zm 136 22,zB 137 .neq 135 136,zm 138 137,zg 139 138 false (.mv 21),zg 140 138 false (.mv 23),zg 141 138 false (.bin .neq 139 140),zP 142 138 (.k (.bool true)) 141]
def PL:C:=zR [6] [zm 6 (.k (.bool false))]
def Ju:C:=zR [1,8,9,11,13,15,17,18,19,20,144] [zm 143 21,zB 144 .eql 143 (zi 0)]
def Hu:C:=zR [1,8,9,11,13,15,17,18,19] [zm 145 17,zm 146 20,zq 147 (.bsl false 38 10 (.int .i64 0) 1 [(0,146)]),zq 148 (.app true 38 10 145 147),zm 17 148]
def Ru:C:=zR [1,8,9,11,13,15,17,18,19,152] [zF 149 54 0 10 19,zL 150 10 149,zC 151 (zf aC) [150,(zi 12)],zB 152 .eql 151 (zi 11)]
def HG:C:=zR [1,8,9,11,13,15,17,18,19] [zm 153 9,zC 154 (zf gT) [153],zm 9 154]
def HD:C:=zR [1,8,9,11,13,15,17,18,19,156] [zm 155 9,zq 156 (.eq false 1 155 (.k .nilp))]
def KE:C:=zR [6] [zm 6 (.k (.bool false))]
def Pn:C:=zR [1,8,9,11,13,15,17,18,19,24] [zm 157 13,zm 24 157]
def Q5:C:=zR [1,8,9,11,13,15,17,18,19,24] [zm 158 13,zm 159 9,zC 160 (zf fL) [158,159],zm 13 160]
def Iu:C:=zR [1,8,9,11,13,15,17,18,19,24,162] [zm 161 13,zq 162 (.eq false 1 161 (.k .nilp))]
def I6:C:=zR [6] [zm 6 (.k (.bool false))]
def Ij:C:=zR [1,8,9,11,13,15,17,18,19,24] [zm 163 24,zC 164 (zf cm) [163,(zi 1)]]
def Kk:C:=zR [1,8,9,11,13,15,17,18,19,24] [zm 165 24,zC 166 (zf bU) [165,(zi 0),(zi 0),(.k (.int .u64 99))]]
def HN:C:=zR [1,8,9,11,13,15,17,18,19] [zm 167 24,zC 168 (zf cW) [167]]
def NR:C:=zR [1,8,9,11,13,15,17,18,19,25] [zm 169 13,zm 170 15,zL 171 54 19,zm 172 17,zC 173 (zf fG) [169,170,171,172],zm 25 173]
def KN:C:=zR [1,8,9,11,13,15,17,18,19,25,26,27] [zm 175 13,zF 176 54 1 10 19,zL 177 10 176,zC 178 (zf eN) [175,177],zm 174 178,zE 179 174 0,zE 180 174 1,zq 26 (.alloc false (.agg 26 [(.int .i64 0),(.int .i64 0),(.agg 24 (List.replicate 8 (.int .u64 0)))])),zS 26 26 179,zm 27 180]
def If:C:=zR [1,8,9,11,13,15,17,18,19,25,26,27,28,29] [zm 182 15,zF 183 54 1 10 19,zL 184 10 183,zC 185 (zf dN) [182,184],zm 181 185,zE 186 181 0,zE 187 181 1,zq 28 (.alloc false (.agg 26 [(.int .i64 0),(.int .i64 0),(.agg 24 (List.replicate 8 (.int .u64 0)))])),zS 26 28 186,zm 29 187]
def JR:C:=zR [1,8,9,11,13,15,17,18,19,25,26,27,28,29,30,31] [zm 189 13,zF 190 54 3 18 19,zL 191 18 190,zC 192 (zf dR) [189,191],zm 188 192,zE 193 188 0,zE 194 188 1,zm 30 193,zm 31 194]
def Lv:C:=zR [1,8,9,11,13,15,17,18,19,25,26,27,28,29,30,31,32,33] [zm 196 15,zF 197 54 3 18 19,zL 198 18 197,zC 199 (zf cY) [196,198],zm 195 199,zE 200 195 0,zE 201 195 1,zm 32 200,zm 33 201]
def Pv:C:=zR [1,8,9,11,13,15,17,18,19,25,26,27,28,29,30,31,32,33,34,35,36] [zm 203 13,zF 204 54 2 10 19,zL 205 10 204,zC 206 (zf bN) [203,205],zm 202 206,zE 207 202 0,zE 208 202 1,zE 209 202 2,zm 34 207,zm 35 208,zm 36 209]
def Po:C:=zR [1,8,9,11,13,15,17,18,25,26,27,28,29,30,31,32,33,34,35,36,37,38,39] [zm 211 15,zF 212 54 2 10 19,zL 213 10 212,zC 214 (zf bE) [211,213],zm 210 214,zE 215 210 0,zE 216 210 1,zE 217 210 2,zm 37 215,zm 38 216,zm 39 217]
def Kv:C:=zR [1,8,9,11,13,15,17,18,25,26,27,28,29,30,31,32,33,34,35,36,37,38,39,40] [zm 218 13,zm 219 15,zC 220 (zf fN) [218,219],zm 40 220]
def JQ:C:=zD [1,8,9,11,13,15,17,18,270] [zm 221 25,zq 222 (.un .not 221),zm 223 222,zg 224 223 false (.mv 40),zg 225 223 false (.un .not 224),zP 226 223 (.k (.bool true)) 225,zm 227 226,zg 228 227 false (.ld 26 26),zg 229 227 false (.ld 26 28),zg 230 227 false (.eq true 26 228 229),zP 231 227 (.k (.bool true)) 230,zm 232 231,zg 233 232 false (.mv 27),zg 234 232 false (.mv 29),zg 235 232 false (.bin .neq 233 234),zP 236 232 (.k (.bool true)) 235,zm 237 236,zg 238 237 false (.mv 30),zg 239 237 false (.mv 32),zg 240 237 false (.bin .neq 238 239),zP 241 237 (.k (.bool true)) 240,zm 242 241,zg 243 242 false (.mv 31),zg 244 242 false (.mv 33),zg 245 242 false (.bin .neq 243 244),zP 246 242 (.k (.bool true)) 245,zm 247 246,zg 248 247 false (.mv 34),zg 249 247 false (.mv 37),zg 250 247 false (.bin .neq 248 249),zP 251 247 (.k (.bool true)) 250,zm 252 251,zg 253 252 false (.mv 35),zg 254 252 false (.mv 38),zg 255 252 false (.bin .neq 253 254),zP 256 252 (.k (.bool true)) 255,zm 257 256,zg 258 257 false (.mv 36),zg 259 257 false (.mv 39),zg 260 257 false (.bin .neq 258 259),zP 261 257 (.k (.bool true)) 260,zm 262 261,zg 263 262 false (.mv 9),zg 264 262 false (.pcall (zf gW) [263]),zg 265 262 false (.mv 11),zg 266 262 false (.nilc 265),zg 267 262 false (.fad 33 4 10 266),zg 268 262 false (.ld 10 267),zg 269 262 false (.bin .neq 264 268),zP 270 262 (.k (.bool true)) 269]
def M9:C:=zR [6] [zm 6 (.k (.bool false))]
def HT:C:=zR [1,8,9,11,13,15,17,18] [zm 112 18,zB 113 .add 112 (zi 1),zm 18 113]
def Oq:C:=zR [8,9,11,41] [zm 41 (zi 0)]
def K3:C:=zR [8,9,11,41,273] [zm 271 41,zm 272 8,zB 273 .lss 271 272]
def Lj:C:=zR [8,9,11,41,42,43] [zm 277 9,zm 278 41,zC 279 (zf cA) [277,278],zm 276 279,zE 280 276 0,zE 281 276 1,zq 42 (.alloc false (.agg 24 (List.replicate 8 (.int .u64 0)))),zS 24 42 280,zm 43 281]
def Rk:C:=zR [8,9,11,41,42,43,44,45] [zm 283 11,zm 284 41,zC 285 (zf aW) [283,284],zm 282 285,zE 286 282 0,zE 287 282 1,zq 44 (.alloc false (.agg 24 (List.replicate 8 (.int .u64 0)))),zS 24 44 286,zm 45 287]
def Hq:C:=zR [8,9,11,41,295] [zL 288 24 42,zL 289 24 44,zq 290 (.eq true 24 288 289),zm 291 290,zg 292 291 false (.mv 43),zg 293 291 false (.mv 45),zg 294 291 false (.bin .neq 292 293),zP 295 291 (.k (.bool true)) 294]
def Jb:C:=zR [6] [zm 6 (.k (.bool false))]
def QP:C:=zR [8,9,11,41] [zm 274 41,zB 275 .add 274 (zi 1),zm 41 275]
def ME:C:=zR [6] [zm 6 (.k (.bool true))]
def ai:C:=.seq (.seq Jd (.cond (.t 111) (.skip) (.exit 0))) (.seq (.block 1 (.seq R8 (.seq (.seq IQ (.cond (.t 121) (.seq K6 (.seq JI (.seq (.seq NO (.cond (.t 142) (.seq PL (.ret)) (.skip))) (.seq Ju (.cond (.t 144) Hu (.skip)))))) (.skip))) (.seq (.seq Ru (.cond (.t 152) (.seq HG (.seq (.seq HD (.cond (.t 156) (.seq KE (.ret)) (.skip))) (.seq Pn (.seq Q5 (.seq (.seq Iu (.cond (.t 162) (.seq I6 (.ret)) (.skip))) (.seq Ij (.seq Kk HN))))))) (.skip))) (.seq NR (.seq KN (.seq If (.seq JR (.seq Lv (.seq Pv (.seq Po (.seq Kv (.seq JQ (.cond (.t 270) (.seq M9 (.ret)) (.skip))))))))))))))) HT)
def cD:C:=.seq (.seq K3 (.cond (.t 273) (.skip) (.exit 2))) (.seq (.block 3 (.seq Lj (.seq Rk (.seq Hq (.cond (.t 295) (.seq Jb (.ret)) (.skip)))))) QP)
@[go_sem] def eA:Fc:=⟨3,.seq Vh (.seq UN (.seq Uo (.seq Vx (.seq VF (.seq (.seq U3 (.cond (.t 66) (.seq VJ (.ret)) (.skip))) (.seq US (.seq Vq (.seq (.seq Uu (.cond (.t 96) (.seq QR (.ret)) (.skip))) (.seq II (.seq Sc (.seq LI (.seq (.seq Jv (.block 0 (.loop [1,8,9,11,13,15,17,18] ai))) (.seq (.seq Oq (.block 2 (.loop [8,9,11,41] cD))) (.seq ME (.ret))))))))))))))),[.t 6]⟩
def WX:C:=zR [] [zm 0 (.k (.bool false))]
def W9:C:=zR [1] [zC 18 (zf kA) [(zi 80)],zm 17 18,zE 19 17 0,zE 20 17 1,zm 1 19,zm 2 20]
def W7:C:=zR [1,22] [zm 21 1,zq 22 (.eq false 1 21 (.k .nilp))]
def W8:C:=zR [0] [zm 0 (.k (.bool false))]
def WZ:C:=zR [1,3] [zq 23 (.bld (.agg 48 (List.replicate 49 (.agg 42 [(.int .i64 0),(.int .i64 0),(.int .i64 0)]))) []),zq 3 (.alloc false (.agg 48 (List.replicate 49 (.agg 42 [(.int .i64 0),(.int .i64 0),(.int .i64 0)])))),zS 48 3 23]
def Xk:C:=zR [1,3] [zq 24 (.bld (.agg 42 [(.int .i64 0),(.int .i64 0),(.int .i64 0)]) [(0,(zi 1)),(2,(zi 20))]),zq 25 (.iad 48 49 42 3 (zi 0)),zS 42 25 24]
def W0:C:=zD [4,5] [zm 27 1,zL 28 48 3,zq 29 (.pcall (zf bp) []),zC 30 (zf dG) [27,(zi 10),28,29],zm 26 30,zE 31 26 0,zE 32 26 1,zm 4 31,zm 5 32]
def Xf:C:=zR [4,38] [zm 33 4,zq 34 (.eq false 1 33 (.k .nilp)),zm 35 34,zg 36 35 false (.mv 5),zg 37 35 false (.bin .neq 36 (zi 0)),zP 38 35 (.k (.bool true)) 37]
def WN:C:=zR [0] [zm 0 (.k (.bool false))]
def WU:C:=zR [4,6] [zm 39 4,zC 40 (zf bU) [39,(zi 0),(zi 3),(.k (.int .u64 7))],zm 6 40]
def Wi:C:=zR [4,6,7] [zm 41 4,zC 42 (zf cI) [41],zq 7 (.alloc false (.agg 48 (List.replicate 49 (.agg 42 [(.int .i64 0),(.int .i64 0),(.int .i64 0)])))),zS 48 7 42]
def WE:C:=zR [4,6,7,8] [zm 43 4,zC 44 (zf bU) [43,(zi 0),(zi 4),(.k (.int .u64 8))],zm 8 44]
def V8:C:=zR [4,6,7,8,9] [zm 45 4,zC 46 (zf cI) [45],zq 9 (.alloc false (.agg 48 (List.replicate 49 (.agg 42 [(.int .i64 0),(.int .i64 0),(.int .i64 0)])))),zS 48 9 46]
def VS:C:=zR [4,6,7,8,9,10] [zm 48 4,zC 49 (zf eN) [48,(zi 0)],zm 47 49,zE 50 47 0,zE 51 47 1,zq 10 (.alloc false (.agg 26 [(.int .i64 0),(.int .i64 0),(.agg 24 (List.replicate 8 (.int .u64 0)))])),zS 26 10 50,zm 11 51]
def V3:C:=zR [4,6,7,8,9,10,13] [zm 53 4,zC 54 (zf cm) [53,(zi 3)],zm 52 54,zE 55 52 0,zE 56 52 1,zm 12 55,zm 13 56]
def WB:C:=zR [6,7,8,9,10,13,14,15,16] [zm 58 4,zC 59 (zf bN) [58,(zi 1)],zm 57 59,zE 60 57 0,zE 61 57 1,zE 62 57 2,zm 14 60,zm 15 61,zm 16 62]
def Wb:C:=zR [0] [zm 63 6,zB 64 .eql 63 (zi 0),zm 65 64,zg 66 65 true (.mv 8),zg 67 65 true (.bin .eql 66 (zi 0)),zP 68 65 67 (.k (.bool false)),zm 69 68,zg 70 69 true (.iad 48 49 42 7 (zi 0)),zg 71 69 true (.fad 42 2 10 70),zg 72 69 true (.ld 10 71),zg 73 69 true (.bin .neq 72 (zi 20)),zP 74 69 73 (.k (.bool false)),zm 75 74,zg 76 75 true (.iad 48 49 42 9 (zi 0)),zg 77 75 true (.fad 42 2 10 76),zg 78 75 true (.ld 10 77),zg 79 75 true (.iad 48 49 42 7 (zi 0)),zg 80 75 true (.fad 42 2 10 79),zg 81 75 true (.ld 10 80),zg 82 75 true (.bin .eql 78 81),zP 83 75 82 (.k (.bool false)),zm 84 83,zg 85 84 true (.fad 26 2 24 10),zg 86 84 true (.ld 24 85),zg 87 84 true (.bld (.agg 24 (List.replicate 8 (.int .u64 0))) [(3,(.k (.int .u64 7))),(4,(.k (.int .u64 8)))]),zg 88 84 true (.eq false 24 86 87),zP 89 84 88 (.k (.bool false)),zm 90 89,zg 91 90 true (.mv 13),zg 92 90 true (.bin .eql 91 (zi 1)),zP 93 90 92 (.k (.bool false)),zm 94 93,zg 95 94 true (.mv 14),zg 96 94 true (.bin .eql 95 (zi 1)),zP 97 94 96 (.k (.bool false)),zm 98 97,zg 99 98 true (.mv 15),zg 100 98 true (.bin .eql 99 (zi 0)),zP 101 98 100 (.k (.bool false)),zm 102 101,zg 103 102 true (.mv 16),zg 104 102 true (.bin .eql 103 (zi 0)),zP 105 102 104 (.k (.bool false)),zm 0 105]
@[go_sem] def j7:Fc:=⟨0,.seq WX (.seq W9 (.seq (.seq W7 (.cond (.t 22) (.seq W8 (.ret)) (.skip))) (.seq WZ (.seq Xk (.seq W0 (.seq (.seq Xf (.cond (.t 38) (.seq WN (.ret)) (.skip))) (.seq WU (.seq Wi (.seq WE (.seq V8 (.seq VS (.seq V3 (.seq WB (.seq Wb (.ret))))))))))))))),[.t 0]⟩
def UG:C:=zR [0,1] [zm 4 (zi 0)]
def Vj:C:=zR [0,1,6] [zm 5 0,zB 6 .lss 5 (zi 0)]
def UB:C:=zR [0,1] [zm 7 0,zB 8 .add 7 (zi 1),zq 9 (.un .neg 8),zm 0 9]
def Vg:C:=zR [4] [zm 10 0,zm 11 1,zB 12 .rem 10 11,zm 4 12]
@[go_sem] def hU:Fc:=⟨2,.seq UG (.seq (.seq Vj (.cond (.t 6) UB (.skip))) (.seq Vg (.ret))),[.t 4]⟩
def UI:C:=zR [0] [zm 2 (.k .nilp),zm 3 (zi 0)]
def Uh:C:=zR [0,9] [zm 4 0,zB 5 .lss 4 (zi 64),zm 6 5,zg 7 6 false (.mv 0),zg 8 6 false (.bin .gtr 7 (zi 1024)),zP 9 6 (.k (.bool true)) 8]
def Vz:C:=zR [2,3] [zm 2 (.k .nilp),zm 3 (zi 1)]
def U8:C:=zR [2,3] [zm 10 0,zq 11 (.mksl true 57 55 (.agg 55 [(.agg 24 (List.replicate 8 (.int .u64 0))),(.agg 24 (List.replicate 8 (.int .u64 0))),.nils,(.agg 50 (List.replicate 8 (.int .i64 0)))]) 10 10),zq 12 (.bld (.agg 59 [.nils,(.bool false),(.bool false),(.int .i64 0),(.int .i64 0)]) [(0,11)]),zq 13 (.box true 12),zm 2 13,zm 3 (zi 0)]
@[go_sem] def qg:Fc:=⟨1,.seq UI (.seq (.seq Uh (.cond (.t 9) (.seq Vz (.ret)) (.skip))) (.seq U8 (.ret))),[.t 2,.t 3]⟩
def Vl:C:=zR [0] [zm 2 (.k .nilp),zm 3 (zi 0)]
def Vy:C:=zR [0,9] [zm 4 0,zB 5 .lss 4 (zi 64),zm 6 5,zg 7 6 false (.mv 0),zg 8 6 false (.bin .gtr 7 (zi 1024)),zP 9 6 (.k (.bool true)) 8]
def Va:C:=zR [2,3] [zm 2 (.k .nilp),zm 3 (zi 1)]
def VC:C:=zR [2,3] [zm 10 0,zq 11 (.mksl false 58 24 (.agg 24 (List.replicate 8 (.int .u64 0))) 10 10),zC 12 (zf gp) [11],zE 13 12 0,zE 14 12 1,zm 2 13,zm 3 14]
@[go_sem] def iE:Fc:=⟨1,.seq Vl (.seq (.seq Vy (.cond (.t 9) (.seq Va (.ret)) (.skip))) (.seq VC (.ret))),[.t 2,.t 3]⟩
def Vr:C:=zR [0,1,6,7] [zq 6 (.box false 2),zq 7 (.box false 3),zm 8 (.k .nilp),zm 9 (zi 0)]
def Ur:C:=zR [0,6,7,10,11] [zm 18 1,zm 19 0,zC 20 (zf cj) [19],zC 21 (zf iQ) [18,20],zm 17 21,zE 22 17 0,zE 23 17 1,zm 10 22,zm 11 23]
def UF:C:=zR [0,6,7,10,11,25] [zm 24 11,zB 25 .neq 24 (zi 0)]
def UJ:C:=zR [8,9] [zm 26 11,zm 8 (.k .nilp),zm 9 26]
def UH:C:=zR [6,7,10,12] [zm 27 0,zm 28 10,zL 29 48 6,zL 30 48 6,zL 31 50 7,zq 32 (.bld (.agg 43 [.nilp,.nilp,(.agg 48 (List.replicate 49 (.agg 42 [(.int .i64 0),(.int .i64 0),(.int .i64 0)]))),(.agg 48 (List.replicate 49 (.agg 42 [(.int .i64 0),(.int .i64 0),(.int .i64 0)]))),(.agg 50 (List.replicate 8 (.int .i64 0))),(.agg 48 (List.replicate 49 (.agg 42 [(.int .i64 0),(.int .i64 0),(.int .i64 0)]))),(.bool false),(.agg 82 (List.replicate 1024 (.bool false)))]) [(0,27),(1,28),(2,29),(3,30),(4,31)]),zq 33 (.box true 32),zm 12 33]
def VA:C:=zR [7,10,12,34,35] [zL 34 48 6,zm 35 (zi 0)]
def UR:C:=zR [7,10,12,34,35,36] [zB 36 .lss 35 (zi 49)]
def VL:C:=zR [7,10,12,14,34,35] [zq 37 (.idx 48 49 34 35),zq 14 (.alloc false (.agg 42 [(.int .i64 0),(.int .i64 0),(.int .i64 0)])),zS 42 14 37]
def VE:C:=zR [7,10,12,34,35,47] [zF 38 42 0 10 14,zL 39 10 38,zB 40 .neq 39 (zi 0),zm 41 40,zg 42 41 true (.mv 10),zg 43 41 true (.fad 42 2 10 14),zg 44 41 true (.ld 10 43),zg 45 41 true (.call (zf cl) [42,44]),zg 46 41 true (.bin .neq 45 (zi 0)),zP 47 41 46 (.k (.bool false))]
def UZ:C:=zR [8,9] [zm 8 (.k .nilp),zm 9 (zi 21)]
def Om:C:=zR [7,10,12,34,35] [zB 48 .add 35 (zi 1),zm 35 48]
def Ik:C:=zR [10,12,49,50] [zL 49 50 7,zm 50 (zi 0)]
def RG:C:=zR [10,12,49,50,51] [zB 51 .lss 50 (zi 8)]
def Ou:C:=zR [10,12,16,49,50] [zq 52 (.idx 50 8 49 50),zm 16 52]
def M6:C:=zR [10,12,49,50,56] [zm 53 10,zm 54 16,zC 55 (zf cl) [53,54],zB 56 .neq 55 (zi 0)]
def PR:C:=zR [8,9] [zm 8 (.k .nilp),zm 9 (zi 21)]
def KC:C:=zR [10,12,49,50] [zB 57 .add 50 (zi 1),zm 50 57]
def HS:C:=zR [12] [zm 58 12,zC 59 (zf bB) [58]]
def Mx:C:=zR [8,9] [zm 60 12,zm 8 60,zm 9 (zi 0)]
def gd:C:=.seq UR (.seq (.cond (.t 36) (.skip) (.exit 0)) (.seq (.block 1 (.seq VL (.seq VE (.cond (.t 47) (.seq UZ (.ret)) (.skip))))) Om))
def iU:C:=.seq RG (.seq (.cond (.t 51) (.skip) (.exit 2)) (.seq (.block 3 (.seq Ou (.seq M6 (.cond (.t 56) (.seq PR (.ret)) (.skip))))) KC))
@[go_sem] def mU:Fc:=⟨4,.seq Vr (.seq Ur (.seq (.seq UF (.cond (.t 25) (.seq UJ (.ret)) (.skip))) (.seq UH (.seq (.seq VA (.block 0 (.loop [7,10,12,34,35] gd))) (.seq (.seq Ik (.block 2 (.loop [10,12,49,50] iU))) (.seq HS (.seq Mx (.ret)))))))),[.t 8,.t 9]⟩
def Vf:C:=zR [0,2] [zq 2 (.alloc false (.agg 48 (List.replicate 49 (.agg 42 [(.int .i64 0),(.int .i64 0),(.int .i64 0)]))))]
def UO:C:=zR [0,2,3] [zq 5 (.bld (.agg 48 (List.replicate 49 (.agg 42 [(.int .i64 0),(.int .i64 0),(.int .i64 0)]))) []),zq 3 (.alloc false (.agg 48 (List.replicate 49 (.agg 42 [(.int .i64 0),(.int .i64 0),(.int .i64 0)])))),zS 48 3 5]
def UV:C:=zR [0,2,3,4] [zm 4 (zi 0)]
def UL:C:=zR [0,2,3,4,12] [zm 6 4,zm 7 0,zB 8 .lss 6 7,zm 9 8,zg 10 9 true (.mv 4),zg 11 9 true (.bin .lss 10 (zi 49)),zP 12 9 11 (.k (.bool false))]
def U9:C:=zR [0,2,3,4] [zm 15 4,zm 16 4,zB 17 .rem 16 (zi 4),zB 18 .add (zi 1) 17,zm 19 4,zm 20 4,zB 21 .add (zi 20) 20,zq 22 (.bld (.agg 42 [(.int .i64 0),(.int .i64 0),(.int .i64 0)]) [(0,18),(1,19),(2,21)]),zq 23 (.iad 48 49 42 3 15),zS 42 23 22]
def Uy:C:=zR [0,2,3,4] [zm 13 4,zB 14 .add 13 (zi 1),zm 4 14]
def Vv:C:=zR [2] [zL 24 48 3,zS 48 2 24]
def ea:C:=.seq (.seq UL (.cond (.t 12) (.skip) (.exit 0))) (.seq (.block 1 U9) Uy)
@[go_sem] def gC:Fc:=⟨1,.seq Vf (.seq UO (.seq (.seq UV (.block 0 (.loop [0,2,3,4] ea))) (.seq Vv (.ret)))),[.cell 2 48]⟩
def Wa:C:=zR [0] [zq 0 (.alloc false (.agg 50 (List.replicate 8 (.int .i64 0))))]
def V5:C:=zR [0,1] [zq 3 (.bld (.agg 50 (List.replicate 8 (.int .i64 0))) []),zq 1 (.alloc false (.agg 50 (List.replicate 8 (.int .i64 0)))),zS 50 1 3]
def V1:C:=zR [0,1,2] [zm 2 (zi 0)]
def VT:C:=zR [0,1,2,5] [zm 4 2,zB 5 .lss 4 (zi 8)]
def VW:C:=zR [0,1,2] [zm 8 2,zm 9 2,zB 10 .add (zi 10) 9,zq 11 (.iad 50 8 10 1 8),zS 10 11 10]
def Wm:C:=zR [0,1,2] [zm 6 2,zB 7 .add 6 (zi 1),zm 2 7]
def Wo:C:=zR [0] [zL 12 50 1,zS 50 0 12]
def oq:C:=.seq (.seq VT (.cond (.t 5) (.skip) (.exit 0))) (.seq (.block 1 VW) Wm)
@[go_sem] def kB:Fc:=⟨0,.seq Wa (.seq V5 (.seq (.seq V1 (.block 0 (.loop [0,1,2] oq))) (.seq Wo (.ret)))),[.cell 0 50]⟩
def QM:C:=zR [0,1,6,7] [zq 6 (.box false 2),zq 7 (.box false 3),zm 8 (.k .nilp),zm 9 (zi 0)]
def NT:C:=zR [0,6,7,10,11] [zm 15 1,zm 16 0,zN 17 16,zF 18 33 0 1 17,zL 19 1 18,zq 20 (.len false 19),zC 21 (zf d9) [15,20],zm 14 21,zE 22 14 0,zE 23 14 1,zm 10 22,zm 11 23]
def Qa:C:=zR [0,6,7,10,25] [zm 24 11,zB 25 .neq 24 (zi 0)]
def Hs:C:=zR [8,9] [zm 8 (.k .nilp),zm 9 (zi 1)]
def Hv:C:=zD [0,6,7,10,12] [zL 26 48 6,zq 27 (.callw (zf aK) [26] 7),zq 28 (.slarr 50 8 10 7 none none none),zq 29 (.app false 38 10 27 28),zm 12 29]
def Ka:C:=zR [0,6,7,10,12,13] [zm 13 (zi 0)]
def Qw:C:=zR [0,6,7,10,12,13,33] [zm 30 13,zm 31 12,zq 32 (.len false 31),zB 33 .lss 30 32]
def MS:C:=zR [0,6,7,10,12,13,42] [zm 36 10,zm 37 12,zm 38 13,zq 39 (.sad 10 37 38),zL 40 10 39,zC 41 (zf br) [36,40],zB 42 .neq 41 (zi 0)]
def Mg:C:=zR [8,9] [zm 8 (.k .nilp),zm 9 (zi 21)]
def Qk:C:=zR [0,6,7,10,12,13] [zm 34 13,zB 35 .add 34 (zi 1),zm 13 35]
def CP:C:=zR [8,9] [zm 43 0,zm 44 10,zL 45 48 6,zL 46 48 6,zL 47 50 7,zq 48 (.bld (.agg 31 [.nilp,.nilp,(.agg 48 (List.replicate 49 (.agg 42 [(.int .i64 0),(.int .i64 0),(.int .i64 0)]))),(.agg 48 (List.replicate 49 (.agg 42 [(.int .i64 0),(.int .i64 0),(.int .i64 0)]))),(.agg 50 (List.replicate 8 (.int .i64 0))),(.agg 48 (List.replicate 49 (.agg 42 [(.int .i64 0),(.int .i64 0),(.int .i64 0)]))),(.bool false)]) [(0,43),(1,44),(2,45),(3,46),(4,47)]),zq 49 (.box true 48),zm 8 49,zm 9 (zi 0)]
def dS:C:=.seq (.seq Qw (.cond (.t 33) (.skip) (.exit 0))) (.seq (.block 1 (.seq MS (.cond (.t 42) (.seq Mg (.ret)) (.skip)))) Qk)
@[go_sem] def jl:Fc:=⟨4,.seq QM (.seq NT (.seq (.seq Qa (.cond (.t 25) (.seq Hs (.ret)) (.skip))) (.seq Hv (.seq (.seq Ka (.block 0 (.loop [0,6,7,10,12,13] dS))) (.seq CP (.ret)))))),[.t 8,.t 9]⟩
def Og:C:=zR [] [zm 4 0,zm 5 0,zm 6 1,zB 7 .geq 6 (zi 0),zm 8 1,zN 9 4,zF 10 59 2 0 9,zS 0 10 7,zN 11 5,zF 12 59 3 10 11,zS 10 12 8]
@[go_sem] def jR:Fc:=⟨2,Og,[]⟩
def Iw:C:=zR [] [zm 4 0,zm 5 1,zq 6 (.mnx true 5 (zi (-1))),zN 7 4,zF 8 33 3 10 7,zS 10 8 6]
@[go_sem] def eI:Fc:=⟨2,Iw,[]⟩
def Nc:C:=zR [0] [zm 2 (zi 0),zm 3 (zi 0)]
def Km:C:=zR [2,3] [zm 4 0,zN 5 4,zF 6 43 1 1 5,zL 7 1 6,zC 8 (zf bD) [7],zE 9 8 0,zE 10 8 1,zm 2 9,zm 3 10]
@[go_sem] def iG:Fc:=⟨1,.seq Nc (.seq Km (.ret)),[.t 2,.t 3]⟩
def Od:C:=zR [0] [zm 2 (zi 0),zm 3 (zi 0)]
def KO:C:=zR [0,4] [zm 4 (zi 0)]
def LO:C:=zR [0,4,11] [zm 5 4,zm 6 0,zN 7 6,zF 8 21 1 1 7,zL 9 1 8,zq 10 (.len false 9),zB 11 .lss 5 10]
def Jp:C:=zR [0,4,21] [zm 14 0,zN 15 14,zF 16 21 1 1 15,zL 17 1 16,zm 18 4,zq 19 (.sad 10 17 18),zL 20 10 19,zB 21 .eql 20 (zi 0)]
def Sd:C:=zR [0,4] [zm 22 0,zN 23 22,zF 24 21 1 1 23,zL 25 1 24,zm 26 4,zq 27 (.sad 10 25 26),zS 10 27 (zi 1)]
def JU:C:=zR [2,3] [zm 28 0,zN 29 28,zF 30 21 0 10 29,zL 31 10 30,zm 32 4,zB 33 .add 31 32,zm 2 33,zm 3 (zi 0)]
def My:C:=zR [0,4] [zm 12 4,zB 13 .add 12 (zi 1),zm 4 13]
def RW:C:=zR [2,3] [zm 2 (zi 0),zm 3 (zi 10)]
def bG:C:=.seq (.seq LO (.cond (.t 11) (.skip) (.exit 0))) (.seq (.block 1 (.seq Jp (.cond (.t 21) (.seq Sd (.seq JU (.ret))) (.skip)))) My)
@[go_sem] def dZ:Fc:=⟨1,.seq Od (.seq (.seq KO (.block 0 (.loop [0,4] bG))) (.seq RW (.ret))),[.t 2,.t 3]⟩
def HQ:C:=zR [0] [zm 2 (.k .nilp)]
def RK:C:=zR [0,3] [zm 5 0,zN 6 5,zL 7 59 6,zq 3 (.alloc true (.agg 59 [.nils,(.bool false),(.bool false),(.int .i64 0),(.int .i64 0)])),zS 59 3 7]
def Q3:C:=zR [0,3] [zm 8 0,zN 9 8,zF 10 59 0 1 9,zL 11 1 10,zC 12 (zf eL) [11],zF 13 59 0 1 3,zS 1 13 12]
def Kc:C:=zR [0,3,16,17] [zF 14 59 0 1 3,zL 15 1 14,zq 16 (.len false 15),zm 17 (zi 0)]
def P5:C:=zR [0,3,16,17,18] [zB 18 .lss 17 16]
def Ir:C:=zR [0,3,4,16,17] [zm 19 17,zm 4 19]
def OX:C:=zD [0,3,16,17] [zF 20 59 0 1 3,zL 21 1 20,zm 22 4,zm 23 0,zN 24 23,zF 25 59 0 1 24,zL 26 1 25,zm 27 4,zq 28 (.sad 55 26 27),zF 29 55 2 1 28,zL 30 1 29,zq 31 (.callk true (zf em) [30]),zq 32 (.sad 55 21 22),zF 33 55 2 1 32,zS 1 33 31]
def NG:C:=zR [0,3,16,17] [zB 34 .add 17 (zi 1),zm 17 34]
def PV:C:=zR [2] [zm 2 3]
def fY:C:=.seq P5 (.seq (.cond (.t 18) (.skip) (.exit 0)) (.seq (.block 1 (.seq Ir OX)) NG))
@[go_sem] def jy:Fc:=⟨1,.seq HQ (.seq RK (.seq Q3 (.seq (.seq Kc (.block 0 (.loop [0,3,16,17] fY))) (.seq PV (.ret))))),[.t 2]⟩
def Ib:C:=zR [0,1] [zm 4 (.k .nilp)]
def QA:C:=zR [0,1,5] [zm 6 0,zN 7 6,zL 8 43 7,zq 5 (.alloc true (.agg 43 [.nilp,.nilp,(.agg 48 (List.replicate 49 (.agg 42 [(.int .i64 0),(.int .i64 0),(.int .i64 0)]))),(.agg 48 (List.replicate 49 (.agg 42 [(.int .i64 0),(.int .i64 0),(.int .i64 0)]))),(.agg 50 (List.replicate 8 (.int .i64 0))),(.agg 48 (List.replicate 49 (.agg 42 [(.int .i64 0),(.int .i64 0),(.int .i64 0)]))),(.bool false),(.agg 82 (List.replicate 1024 (.bool false)))])),zS 43 5 8]
def Mt:C:=zR [5] [zm 9 1,zm 10 0,zN 11 10,zF 12 43 1 1 11,zL 13 1 12,zC 14 (zf dU) [13],zF 15 43 0 1 5,zS 1 15 9,zF 16 43 1 1 5,zS 1 16 14]
def RR:C:=zR [4] [zm 4 5]
@[go_sem] def ie:Fc:=⟨2,.seq Ib (.seq QA (.seq Mt (.seq RR (.ret)))),[.t 4]⟩
def Nh:C:=zR [0,1] [zm 4 (zi 0),zm 5 (zi 0)]
def Pc:C:=zR [0,1,6,7,8] [zm 11 0,zm 12 1,zC 13 (zf bN) [11,12],zm 10 13,zE 14 10 0,zE 15 10 1,zE 16 10 2,zm 6 14,zm 7 15,zm 8 16]
def O2:C:=zR [0,1,6,7,8,18] [zm 17 8,zB 18 .neq 17 (zi 0)]
def JZ:C:=zR [4,5] [zm 19 8,zm 4 (zi 0),zm 5 19]
def QS:C:=zR [0,1,6,7,8,9] [zm 21 0,zq 22 (.bld (.agg 24 (List.replicate 8 (.int .u64 0))) []),zC 23 (zf dA) [21,22],zm 20 23,zE 24 20 0,zE 25 20 1,zm 9 24,zm 8 25]
def Nz:C:=zR [0,1,6,7,8,9,27] [zm 26 8,zB 27 .neq 26 (zi 0)]
def Pt:C:=zR [4,5] [zm 28 8,zm 4 (zi 0),zm 5 28]
def Nl:C:=zR [6] [zm 29 0,zm 30 6,zm 31 1,zm 32 7,zm 33 9,zq 34 (.bld (.agg 42 [(.int .i64 0),(.int .i64 0),(.int .i64 0)]) [(0,31),(1,32),(2,33)]),zN 35 29,zF 36 43 2 48 35,zq 37 (.iad 48 49 42 36 30),zS 42 37 34]
def JA:C:=zR [4,5] [zm 38 6,zm 4 38,zm 5 (zi 0)]
@[go_sem] def iy:Fc:=⟨2,.seq Nh (.seq Pc (.seq (.seq O2 (.cond (.t 18) (.seq JZ (.ret)) (.skip))) (.seq QS (.seq (.seq Nz (.cond (.t 27) (.seq Pt (.ret)) (.skip))) (.seq Nl (.seq JA (.ret))))))),[.t 4,.t 5]⟩
def JF:C:=zR [0,1,2,3] [zm 8 (zi 0)]
def HC:C:=zR [0,1,2,3,9] [zm 12 0,zm 13 1,zC 14 (zf bg) [12,13],zm 9 14]
def P3:C:=zR [0,1,2,3,9,15] [zm 16 9,zB 17 .eql 16 (zi 1),zm 15 17]
def Nq:C:=zR [0,1,2,3,9,15] [zm 18 2,zB 19 .lss 18 (zi 0),zm 15 19]
def Rr:C:=zR [0,1,2,3,9,15] [zm 20 2,zB 21 .geq 20 (zi 8),zm 15 21]
def Je:C:=zR [8] [zm 8 (zi 1)]
def HO:C:=zR [0,1,2,3,9,22] [zm 23 9,zB 24 .neq 23 (zi 0),zm 22 24]
def Mp:C:=zR [8] [zm 25 9,zm 8 25]
def N5:C:=zR [0,1,2,3,26] [zm 27 0,zm 28 1,zC 29 (zf bw) [27,28],zm 26 29]
def Pi:C:=zD [8] [zm 30 0,zN 31 30,zF 32 43 0 1 31,zL 33 1 32,zm 34 0,zm 35 1,zN 36 34,zF 37 43 2 48 36,zq 38 (.iad 48 49 42 37 35),zF 39 42 2 10 38,zL 40 10 39,zm 41 2,zm 42 3,zC 43 (zf dQ) [33,40,41,42],zm 8 43]
def EZ:C:=zR [0,1,2,3,44] [zm 45 0,zN 46 45,zF 47 43 1 1 46,zL 48 1 47,zC 49 (zf bq) [48],zB 50 .eql 49 (zi 0),zm 44 50]
def B9:C:=zR [8] [zm 8 (zi 10)]
def Cj:C:=zD [0,1,2,3,9,10] [zm 52 0,zN 53 52,zF 54 43 0 1 53,zL 55 1 54,zm 56 0,zm 57 1,zN 58 56,zF 59 43 2 48 58,zq 60 (.iad 48 49 42 59 57),zF 61 42 2 10 60,zL 62 10 61,zq 63 (.pcall (zf cA) [55,62]),zm 51 63,zE 64 51 0,zE 65 51 1,zq 10 (.alloc false (.agg 24 (List.replicate 8 (.int .u64 0)))),zS 24 10 64,zm 9 65]
def Dd:C:=zR [0,1,2,3,9,10,67] [zm 66 9,zB 67 .neq 66 (zi 0)]
def Ch:C:=zR [8] [zm 68 9,zm 8 68]
def Ew:C:=zR [0,1,10] [zm 69 2,zm 70 3,zq 71 (.iad 24 8 18 10 69),zS 18 71 70]
def EI:C:=zR [0,1,9,11] [zm 73 0,zL 74 24 10,zC 75 (zf dA) [73,74],zm 72 75,zE 76 72 0,zE 77 72 1,zm 11 76,zm 9 77]
def C7:C:=zR [0,1,9,11,79] [zm 78 9,zB 79 .neq 78 (zi 0)]
def Dj:C:=zR [8] [zm 80 9,zm 8 80]
def Cd:C:=zR [] [zm 81 0,zm 82 1,zm 83 11,zN 84 81,zF 85 43 2 48 84,zq 86 (.iad 48 49 42 85 82),zF 87 42 2 10 86,zS 10 87 83]
def Ff:C:=zR [8] [zm 8 (zi 0)]
@[go_sem] def jg:Fc:=⟨4,.seq JF (.seq HC (.seq (.block 0 (.seq (.seq P3 (.cond (.t 15) (.skip) (.seq Nq (.cond (.t 15) (.skip) Rr)))) (.cond (.t 15) (.seq Je (.ret)) (.seq HO (.cond (.t 22) (.seq Mp (.ret)) (.seq N5 (.cond (.t 26) (.seq Pi (.ret)) (.seq EZ (.cond (.t 44) (.seq B9 (.ret)) (.skip)))))))))) (.seq Cj (.seq (.seq Dd (.cond (.t 67) (.seq Ch (.ret)) (.skip))) (.seq Ew (.seq EI (.seq (.seq C7 (.cond (.t 79) (.seq Dj (.ret)) (.skip))) (.seq Cd (.seq Ff (.ret)))))))))),[.t 8]⟩
def Ob:C:=zR [0] [zm 2 (zi 0)]
def N8:C:=zR [0,6] [zm 3 0,zN 4 3,zF 5 43 6 0 4,zL 6 0 5]
def J0:C:=zR [2] [zm 2 (zi 3)]
def JH:C:=zR [0] [zm 7 0,zm 8 0,zm 9 0,zN 10 9,zF 11 43 2 48 10,zL 12 48 11,zN 13 7,zF 14 43 5 48 13,zS 48 14 12,zN 15 8,zF 16 43 6 0 15,zS 0 16 (.k (.bool true))]
def KJ:C:=zR [] [zm 17 0,zC 18 (zf bB) [17]]
def N4:C:=zR [2] [zm 2 (zi 0)]
@[go_sem] def iN:Fc:=⟨1,.seq Ob (.seq (.seq N8 (.cond (.t 6) (.seq J0 (.ret)) (.skip))) (.seq JH (.seq KJ (.seq N4 (.ret))))),[.t 2]⟩
def Qb:C:=zR [0,1,3,6] [zq 6 (.box false 2),zm 8 (.k (.bool false))]
def Jh:C:=zR [0,1,3,6,9] [zC 16 (zf bp) [],zq 9 (.alloc false (.agg 50 (List.replicate 8 (.int .i64 0)))),zS 50 9 16]
def QI:C:=zR [0,1,3,6,9,10] [zm 10 (zi 0)]
def LQ:C:=zR [0,1,3,6,9,10,18] [zm 17 10,zB 18 .lss 17 (zi 8)]
def Rs:C:=zR [0,1,3,6,9,10] [zm 21 10,zF 22 54 1 10 6,zL 23 10 22,zC 24 (zf aC) [23,(zi 60)],zm 25 10,zB 26 .add 24 25,zq 27 (.iad 50 8 10 9 21),zS 10 27 26]
def OZ:C:=zR [0,1,3,6,9,10,30] [zm 28 3,zq 29 (.len false 28),zB 30 .geq 29 (zi 8)]
def I1:C:=zR [0,1,3,6,9,10] [zm 31 10,zm 32 3,zm 33 3,zq 34 (.len false 33),zB 35 .sub 34 (zi 8),zm 36 10,zB 37 .add 35 36,zq 38 (.sad 10 32 37),zL 39 10 38,zq 40 (.iad 50 8 10 9 31),zS 10 40 39]
def Qv:C:=zR [0,1,3,6,9,10] [zm 19 10,zB 20 .add 19 (zi 1),zm 10 20]
def LX:C:=zR [0,1,6,9,43] [zF 41 54 0 10 6,zL 42 10 41,zC 43 (zf aC) [42,(zi 12)]]
def Jr:C:=zR [0,1,6,9,43,44] [zB 45 .eql 43 (zi 0),zm 44 45]
def Fi:C:=zR [0,1,6,9,43,44] [zB 46 .eql 43 (zi 1),zm 44 46]
def Fb:C:=zR [0,1,6,9,43,44] [zB 47 .eql 43 (zi 2),zm 44 47]
def E3:C:=zR [0,1,6,9,43,44] [zB 48 .eql 43 (zi 3),zm 44 48]
def DR:C:=zD [8] [zm 49 0,zF 50 54 1 10 6,zL 51 10 50,zF 52 54 2 10 6,zL 53 10 52,zF 54 54 3 18 6,zL 55 18 54,zq 56 (.callk false (zf bU) [49,51,53,55]),zm 57 1,zF 58 54 1 10 6,zq 59 (.ldl 10 58),zF 60 54 2 10 6,zq 61 (.ldl 10 60),zF 62 54 3 18 6,zq 63 (.ldl 18 62),zC 64 (zf dL) [57,59,61,63],zB 65 .eql 56 64,zm 8 65]
def EA:C:=zR [0,1,6,9,43,66] [zB 67 .eql 43 (zi 4),zm 66 67]
def EU:C:=zR [1,6,11,12] [zm 69 0,zF 70 54 2 10 6,zL 71 10 70,zC 72 (zf cm) [69,71],zm 68 72,zE 73 68 0,zE 74 68 1,zm 11 73,zm 12 74]
def CI:C:=zR [11,12,13,14] [zm 76 1,zF 77 54 2 10 6,zL 78 10 77,zC 79 (zf du) [76,78],zm 75 79,zE 80 75 0,zE 81 75 1,zm 13 80,zm 14 81]
def D0:C:=zR [8] [zm 82 11,zm 83 13,zB 84 .eql 82 83,zm 85 84,zg 86 85 true (.mv 12),zg 87 85 true (.mv 14),zg 88 85 true (.bin .eql 86 87),zP 89 85 88 (.k (.bool false)),zm 8 89]
def DG:C:=zR [0,1,6,9,43,90] [zB 91 .eql 43 (zi 5),zm 90 91]
def Fh:C:=zD [8] [zm 92 0,zF 93 54 1 10 6,zL 94 10 93,zq 95 (.callk false (zf gv) [92,94]),zm 96 1,zF 97 54 1 10 6,zq 98 (.ldl 10 97),zC 99 (zf dM) [96,98],zB 100 .eql 95 99,zm 8 100]
def E5:C:=zR [0,1,6,9,43,101] [zB 102 .eql 43 (zi 6),zm 101 102]
def Cv:C:=zR [8] [zm 103 0,zC 104 (zf cW) [103],zm 105 1,zC 106 (zf dt) [105],zB 107 .eql 104 106,zm 8 107]
def Cr:C:=zR [0,1,6,9,43,108] [zB 109 .eql 43 (zi 8),zm 108 109]
def Dk:C:=zD [8] [zm 110 0,zL 111 50 9,zq 112 (.callk false (zf eW) [110,111]),zm 113 1,zq 114 (.ldl 50 9),zC 115 (zf cO) [113,114],zB 116 .eql 112 115,zm 8 116]
def CB:C:=zR [0,1,6,43,117] [zB 118 .eql 43 (zi 9),zm 117 118]
def Cu:C:=zR [8] [zm 119 0,zC 120 (zf fM) [119],zm 121 1,zC 122 (zf da) [121],zB 123 .eql 120 122,zm 8 123]
def B8:C:=zR [0,1,6,124] [zB 125 .eql 43 (zi 10),zm 124 125]
def Dp:C:=zR [0,1,6,15] [zF 126 54 3 18 6,zL 127 18 126,zB 128 .rem 127 (.k (.int .u64 100)),zq 129 (.conv .i64 128),zm 15 129]
def E6:C:=zD [8] [zm 130 0,zF 131 54 1 10 6,zL 132 10 131,zF 133 54 2 10 6,zL 134 10 133,zF 135 54 1 10 6,zL 136 10 135,zq 137 (.bsl true 38 10 (.int .i64 0) 3 [(0,132),(1,134),(2,136)]),zm 138 15,zq 139 (.pcall (zf cX) [130,137,138]),zm 140 1,zF 141 54 1 10 6,zL 142 10 141,zF 143 54 2 10 6,zL 144 10 143,zF 145 54 1 10 6,zL 146 10 145,zq 147 (.bsl false 38 10 (.int .i64 0) 3 [(0,142),(1,144),(2,146)]),zm 148 15,zC 149 (zf bz) [140,147,148],zq 150 (.eq false 0 139 149),zm 151 150,zg 152 151 true (.mv 0),zg 153 151 true (.pcall (zf cX) [152,(.k .nils),(zi (-1))]),zg 154 151 true (.mv 1),zg 155 151 true (.call (zf bz) [154,(.k .nils),(zi (-1))]),zg 156 151 true (.eq false 0 153 155),zP 157 151 156 (.k (.bool false)),zm 8 157]
def Dx:C:=zR [8] [zm 8 (.k (.bool true))]
def dh:C:=.seq (.seq LQ (.cond (.t 18) (.skip) (.exit 0))) (.seq (.block 1 (.seq Rs (.seq OZ (.cond (.t 30) I1 (.skip))))) Qv)
@[go_sem] def ik:Fc:=⟨4,.seq Qb (.seq Jh (.seq (.seq QI (.block 0 (.loop [0,1,3,6,9,10] dh))) (.seq (.seq LX (.block 2 (.seq (.seq Jr (.cond (.t 44) (.skip) (.seq Fi (.cond (.t 44) (.skip) (.seq Fb (.cond (.t 44) (.skip) E3)))))) (.cond (.t 44) (.seq DR (.ret)) (.seq EA (.cond (.t 66) (.seq EU (.seq CI (.seq D0 (.ret)))) (.seq DG (.cond (.t 90) (.seq Fh (.ret)) (.seq E5 (.cond (.t 101) (.seq Cv (.ret)) (.seq Cr (.cond (.t 108) (.seq Dk (.ret)) (.seq CB (.cond (.t 117) (.seq Cu (.ret)) (.seq B8 (.cond (.t 124) (.seq Dp (.seq E6 (.ret))) (.skip))))))))))))))))) (.seq Dx (.ret))))),[.t 8]⟩
def HJ:C:=zR [0,1,4] [zq 4 (.alloc false (.agg 26 [(.int .i64 0),(.int .i64 0),(.agg 24 (List.replicate 8 (.int .u64 0)))])),zm 5 (zi 0)]
def Q9:C:=zR [0,1,4,6] [zm 10 0,zm 11 1,zC 12 (zf bg) [10,11],zm 6 12]
def M7:C:=zR [0,1,4,6,14] [zm 13 6,zB 14 .neq 13 (zi 0)]
def N6:C:=zR [4,5] [zq 15 (.bld (.agg 26 [(.int .i64 0),(.int .i64 0),(.agg 24 (List.replicate 8 (.int .u64 0)))]) []),zm 16 6,zS 26 4 15,zm 5 16]
def Ri:C:=zR [0,4,7] [zm 17 0,zm 18 1,zN 19 17,zF 20 43 2 48 19,zq 21 (.iad 48 49 42 20 18),zL 22 42 21,zq 7 (.alloc false (.agg 42 [(.int .i64 0),(.int .i64 0),(.int .i64 0)])),zS 42 7 22]
def LC:C:=zD [4,7,8,9] [zm 24 0,zN 25 24,zF 26 43 0 1 25,zL 27 1 26,zF 28 42 2 10 7,zL 29 10 28,zq 30 (.pcall (zf cA) [27,29]),zm 23 30,zE 31 23 0,zE 32 23 1,zq 8 (.alloc false (.agg 24 (List.replicate 8 (.int .u64 0)))),zS 24 8 31,zm 9 32]
def MC:C:=zR [4,7,8,9,34] [zm 33 9,zB 34 .neq 33 (zi 0)]
def R1:C:=zR [4,5] [zq 35 (.bld (.agg 26 [(.int .i64 0),(.int .i64 0),(.agg 24 (List.replicate 8 (.int .u64 0)))]) []),zm 36 9,zS 26 4 35,zm 5 36]
def Lh:C:=zR [4,5] [zF 37 42 0 10 7,zL 38 10 37,zF 39 42 1 10 7,zL 40 10 39,zL 41 24 8,zq 42 (.bld (.agg 26 [(.int .i64 0),(.int .i64 0),(.agg 24 (List.replicate 8 (.int .u64 0)))]) [(0,38),(1,40),(2,41)]),zS 26 4 42,zm 5 (zi 0)]
@[go_sem] def i7:Fc:=⟨2,.seq HJ (.seq (.seq Q9 (.seq M7 (.cond (.t 14) (.seq N6 (.ret)) (.skip)))) (.seq Ri (.seq LC (.seq (.seq MC (.cond (.t 34) (.seq R1 (.ret)) (.skip))) (.seq Lh (.ret)))))),[.cell 4 26,.t 5]⟩
def PM:C:=zR [0,1,4] [zq 4 (.alloc false (.agg 26 [(.int .i64 0),(.int .i64 0),(.agg 24 (List.replicate 8 (.int .u64 0)))])),zm 5 (zi 0)]
def Iv:C:=zR [0,1,4,6] [zm 8 0,zm 9 1,zC 10 (zf aX) [8,9],zm 6 10]
def Mr:C:=zR [0,1,4,6,12] [zm 11 6,zB 12 .neq 11 (zi 0)]
def HU:C:=zR [4,5] [zq 13 (.bld (.agg 26 [(.int .i64 0),(.int .i64 0),(.agg 24 (List.replicate 8 (.int .u64 0)))]) []),zm 14 6,zS 26 4 13,zm 5 14]
def Mc:C:=zD [0,1,4,6,7] [zm 16 0,zN 17 16,zF 18 31 0 1 17,zL 19 1 18,zm 20 0,zm 21 1,zN 22 20,zF 23 31 2 48 22,zq 24 (.iad 48 49 42 23 21),zF 25 42 2 10 24,zL 26 10 25,zq 27 (.pcall (zf aW) [19,26]),zm 15 27,zE 28 15 0,zE 29 15 1,zq 7 (.alloc false (.agg 24 (List.replicate 8 (.int .u64 0)))),zS 24 7 28,zm 6 29]
def OU:C:=zR [0,1,4,6,7,31] [zm 30 6,zB 31 .neq 30 (zi 0)]
def KV:C:=zR [4,5] [zq 32 (.bld (.agg 26 [(.int .i64 0),(.int .i64 0),(.agg 24 (List.replicate 8 (.int .u64 0)))]) []),zm 33 6,zS 26 4 32,zm 5 33]
def KK:C:=zD [4,5] [zm 34 0,zm 35 1,zN 36 34,zF 37 31 2 48 36,zq 38 (.iad 48 49 42 37 35),zF 39 42 0 10 38,zL 40 10 39,zm 41 0,zm 42 1,zN 43 41,zF 44 31 2 48 43,zq 45 (.iad 48 49 42 44 42),zF 46 42 1 10 45,zL 47 10 46,zL 48 24 7,zq 49 (.bld (.agg 26 [(.int .i64 0),(.int .i64 0),(.agg 24 (List.replicate 8 (.int .u64 0)))]) [(0,40),(1,47),(2,48)]),zS 26 4 49,zm 5 (zi 0)]
@[go_sem] def fC:Fc:=⟨2,.seq PM (.seq Iv (.seq (.seq Mr (.cond (.t 12) (.seq HU (.ret)) (.skip))) (.seq Mc (.seq (.seq OU (.cond (.t 31) (.seq KV (.ret)) (.skip))) (.seq KK (.ret)))))),[.cell 4 26,.t 5]⟩
def JP:C:=zR [0,1] [zm 4 (zi 0),zm 5 (zi 0)]
def P9:C:=zR [0,1,6,7] [zm 10 1,zC 11 (zf kw) [10],zm 9 11,zE 12 9 0,zE 13 9 1,zq 6 (.alloc false (.agg 40 [(.int .i64 0),(.int .i64 0),(.int .i64 0),(.int .i64 0),(.int .i64 0)])),zS 40 6 12,zm 7 13]
def JC:C:=zR [0,1,6,15] [zm 14 7,zq 15 (.un .not 14)]
def OI:C:=zR [4,5] [zm 4 (zi 0),zm 5 (zi 31)]
def Kl:C:=zD [6,8] [zm 16 0,zF 17 40 2 10 6,zL 18 10 17,zN 19 16,zF 20 43 2 48 19,zq 21 (.iad 48 49 42 20 18),zL 22 42 21,zF 23 40 2 10 6,zL 24 10 23,zm 25 1,zq 26 (.pcall (zf km) [22,24,25]),zm 8 26]
def LD:C:=zR [6,8,28] [zm 27 8,zB 28 .neq 27 (zi 0)]
def Jm:C:=zR [4,5] [zm 29 8,zm 4 (zi 0),zm 5 29]
def Jx:C:=zR [4,5] [zF 30 40 2 10 6,zL 31 10 30,zm 4 31,zm 5 (zi 0)]
@[go_sem] def il:Fc:=⟨2,.seq JP (.seq P9 (.seq (.seq JC (.cond (.t 15) (.seq OI (.ret)) (.skip))) (.seq (.seq Kl (.seq LD (.cond (.t 28) (.seq Jm (.ret)) (.skip)))) (.seq Jx (.ret))))),[.t 4,.t 5]⟩
def OW:C:=zR [0,1] [zm 4 (zi 0),zm 5 (zi 0)]
def JW:C:=zR [0,1,6,7] [zm 10 1,zC 11 (zf dw) [10],zm 9 11,zE 12 9 0,zE 13 9 1,zq 6 (.alloc false (.agg 40 [(.int .i64 0),(.int .i64 0),(.int .i64 0),(.int .i64 0),(.int .i64 0)])),zS 40 6 12,zm 7 13]
def M8:C:=zR [0,1,6,15] [zm 14 7,zq 15 (.un .not 14)]
def QD:C:=zR [4,5] [zm 4 (zi 0),zm 5 (zi 31)]
def Ms:C:=zD [6,8] [zm 16 0,zF 17 40 2 10 6,zL 18 10 17,zN 19 16,zF 20 31 2 48 19,zq 21 (.iad 48 49 42 20 18),zL 22 42 21,zF 23 40 2 10 6,zL 24 10 23,zm 25 1,zq 26 (.pcall (zf fa) [22,24,25]),zm 8 26]
def OG:C:=zR [6,8,28] [zm 27 8,zB 28 .neq 27 (zi 0)]
def Rv:C:=zR [4,5] [zm 29 8,zm 4 (zi 0),zm 5 29]
def JB:C:=zR [4,5] [zF 30 40 2 10 6,zL 31 10 30,zm 4 31,zm 5 (zi 0)]
@[go_sem] def eG:Fc:=⟨2,.seq OW (.seq JW (.seq (.seq M8 (.cond (.t 15) (.seq QD (.ret)) (.skip))) (.seq Ms (.seq (.seq OG (.cond (.t 28) (.seq Rv (.ret)) (.skip))) (.seq JB (.ret)))))),[.t 4,.t 5]⟩
def J7:C:=zR [0,1] [zm 4 (zi 0),zm 5 (zi 0),zm 6 (zi 0)]
def O6:C:=zR [0,9] [zm 9 1]
def Lp:C:=zR [0,9,10] [zB 11 .eql 9 (zi 1),zm 10 11]
def OO:C:=zR [0,9,10] [zB 12 .eql 9 (zi 2),zm 10 12]
def QU:C:=zR [0,10] [zB 13 .eql 9 (zi 4),zm 10 13]
def R4:C:=zR [4,5,6] [zm 4 (zi 0),zm 5 (zi 0),zm 6 (zi 1)]
def Id:C:=zR [17,18] [zm 14 0,zN 15 14,zF 16 43 2 48 15,zL 17 48 16,zm 18 (zi 0)]
def Nr:C:=zR [17,18,19] [zB 19 .lss 18 (zi 49)]
def NL:C:=zR [7,8,17,18] [zm 20 18,zq 21 (.idx 48 49 17 18),zq 8 (.alloc false (.agg 42 [(.int .i64 0),(.int .i64 0),(.int .i64 0)])),zm 7 20,zS 42 8 21]
def Me:C:=zR [7,8,17,18,23] [zL 22 42 8,zC 23 (zf kL) [22]]
def Eg:C:=zD [4,5,6] [zm 24 7,zF 25 42 1 10 8,zL 26 10 25,zm 4 24,zm 5 26,zm 6 (zi 0)]
def C1:C:=zR [17,18] [zB 27 .add 18 (zi 1),zm 18 27]
def DP:C:=zR [4,5,6] [zm 4 (zi 0),zm 5 (zi 0),zm 6 (zi 34)]
def bQ:C:=.seq Nr (.seq (.cond (.t 19) (.skip) (.exit 1)) (.seq (.block 2 (.seq NL (.seq Me (.cond (.t 23) (.seq Eg (.ret)) (.skip))))) C1))
@[go_sem] def iT:Fc:=⟨2,.seq J7 (.seq (.seq O6 (.block 0 (.seq (.seq Lp (.cond (.t 10) (.skip) (.seq OO (.cond (.t 10) (.skip) QU)))) (.cond (.t 10) (.skip) (.seq R4 (.ret)))))) (.seq (.seq Id (.block 1 (.loop [17,18] bQ))) (.seq DP (.ret)))),[.t 4,.t 5,.t 6]⟩
def I0:C:=zR [0,1] [zm 4 (zi 0),zm 5 (zi 0),zm 6 (zi 0)]
def OV:C:=zR [0,17] [zm 8 1,zB 9 .neq 8 (zi 1),zm 10 9,zg 11 10 true (.mv 1),zg 12 10 true (.bin .neq 11 (zi 2)),zP 13 10 12 (.k (.bool false)),zm 14 13,zg 15 14 true (.mv 1),zg 16 14 true (.bin .neq 15 (zi 4)),zP 17 14 16 (.k (.bool false))]
def MQ:C:=zR [4,5,6] [zm 4 (zi 0),zm 5 (zi 0),zm 6 (zi 1)]
def Mz:C:=zR [0,7] [zm 7 (zi 0)]
def Qe:C:=zR [0,7,19] [zm 18 7,zB 19 .lss 18 (zi 49)]
def No:C:=zR [0,7,28] [zm 22 0,zm 23 7,zN 24 22,zF 25 31 2 48 24,zq 26 (.iad 48 49 42 25 23),zL 27 42 26,zC 28 (zf fH) [27]]
def Lb:C:=zD [4,5,6] [zm 29 7,zm 30 0,zm 31 7,zN 32 30,zF 33 31 2 48 32,zq 34 (.iad 48 49 42 33 31),zF 35 42 1 10 34,zL 36 10 35,zm 4 29,zm 5 36,zm 6 (zi 0)]
def MD:C:=zR [0,7] [zm 20 7,zB 21 .add 20 (zi 1),zm 7 21]
def J3:C:=zR [4,5,6] [zm 4 (zi 0),zm 5 (zi 0),zm 6 (zi 34)]
def a7:C:=.seq (.seq Qe (.cond (.t 19) (.skip) (.exit 0))) (.seq (.block 1 (.seq No (.cond (.t 28) (.seq Lb (.ret)) (.skip)))) MD)
@[go_sem] def eS:Fc:=⟨2,.seq I0 (.seq (.seq OV (.cond (.t 17) (.seq MQ (.ret)) (.skip))) (.seq (.seq Mz (.block 0 (.loop [0,7] a7))) (.seq J3 (.ret)))),[.t 4,.t 5,.t 6]⟩
def LF:C:=zR [0,1] [zm 4 (.k (.bool false))]
def Nv:C:=zR [0,1,5,6] [zm 10 0,zC 11 (zf fU) [10],zm 9 11,zE 12 9 0,zE 13 9 1,zq 5 (.alloc false (.agg 48 (List.replicate 49 (.agg 42 [(.int .i64 0),(.int .i64 0),(.int .i64 0)])))),zq 6 (.alloc false (.agg 50 (List.replicate 8 (.int .i64 0)))),zS 48 5 12,zS 50 6 13]
def Ns:C:=zR [0,1,5,6,7,8] [zm 15 0,zC 16 (zf eZ) [15],zm 14 16,zE 17 14 0,zE 18 14 1,zq 7 (.alloc false (.agg 48 (List.replicate 49 (.agg 42 [(.int .i64 0),(.int .i64 0),(.int .i64 0)])))),zS 48 7 17,zm 8 18]
def K5:C:=zD [4] [zm 19 0,zq 20 (.pcall (zf cI) [19]),zm 21 1,zN 22 21,zF 23 31 2 48 22,zL 24 48 23,zq 25 (.eq false 48 20 24),zm 26 25,zg 27 26 true (.ld 48 5),zg 28 26 true (.mv 1),zg 29 26 true (.nilc 28),zg 30 26 true (.fad 31 3 48 29),zg 31 26 true (.ld 48 30),zg 32 26 true (.eq false 48 27 31),zP 33 26 32 (.k (.bool false)),zm 34 33,zg 35 34 true (.ld 50 6),zg 36 34 true (.mv 1),zg 37 34 true (.nilc 36),zg 38 34 true (.fad 31 4 50 37),zg 39 34 true (.ld 50 38),zg 40 34 true (.eq false 50 35 39),zP 41 34 40 (.k (.bool false)),zm 42 41,zg 43 42 true (.mv 8),zg 44 42 true (.mv 1),zg 45 42 true (.nilc 44),zg 46 42 true (.fad 31 6 0 45),zg 47 42 true (.ld 0 46),zg 48 42 true (.eq false 0 43 47),zP 49 42 48 (.k (.bool false)),zm 50 49,zg 51 50 true (.mv 8),zg 52 50 true (.un .not 51),zg 53 50 true (.mv 52),zg 54 53 false (.ld 48 7),zg 55 53 false (.mv 1),zg 56 53 false (.nilc 55),zg 57 53 false (.fad 31 5 48 56),zg 58 53 false (.ld 48 57),zg 59 53 false (.eq false 48 54 58),zg 60 50 true (.pick 53 (.k (.bool true)) 59),zP 61 50 60 (.k (.bool false)),zm 62 61,zg 63 62 true (.mv 0),zg 64 62 true (.pcall (zf ei) [63]),zg 65 62 true (.mv 1),zg 66 62 true (.nilc 65),zg 67 62 true (.fad 31 1 1 66),zg 68 62 true (.ld 1 67),zg 69 62 true (.pcall (zf aI) [68]),zg 70 62 true (.bin .eql 64 69),zP 71 62 70 (.k (.bool false)),zm 4 71]
@[go_sem] def hJ:Fc:=⟨2,.seq LF (.seq Nv (.seq Ns (.seq K5 (.ret)))),[.t 4]⟩
def Mv:C:=zR [0] [zm 2 (zi 0)]
def PI:C:=zR [2] [zm 3 0,zN 4 3,zF 5 59 4 10 4,zL 6 10 5,zm 2 6]
@[go_sem] def jB:Fc:=⟨1,.seq Mv (.seq PI (.ret)),[.t 2]⟩
def Lc:C:=zR [0,1,4] [zq 4 (.alloc false (.agg 24 (List.replicate 8 (.int .u64 0)))),zm 5 (zi 0)]
def Hp:C:=zR [0,4,6] [zm 7 0,zm 8 1,zC 9 (zf fF) [7,8],zm 6 9]
def Ja:C:=zR [0,4,6,10] [zm 11 6,zq 12 (.eq false 1 11 (.k .nilp)),zm 10 12]
def JL:C:=zR [4,5] [zq 13 (.bld (.agg 24 (List.replicate 8 (.int .u64 0))) []),zS 24 4 13,zm 5 (zi 1)]
def RD:C:=zR [4,6,14] [zm 15 0,zN 16 15,zF 17 59 1 0 16,zL 18 0 17,zm 14 18]
def Oc:C:=zR [4,5] [zq 19 (.bld (.agg 24 (List.replicate 8 (.int .u64 0))) []),zS 24 4 19,zm 5 (zi 4)]
def RB:C:=zR [4,5] [zm 20 6,zN 21 20,zF 22 55 0 24 21,zL 23 24 22,zS 24 4 23,zm 5 (zi 0)]
@[go_sem] def jK:Fc:=⟨2,.seq Lc (.seq Hp (.seq (.block 0 (.seq Ja (.cond (.t 10) (.seq JL (.ret)) (.seq RD (.cond (.t 14) (.seq Oc (.ret)) (.skip)))))) (.seq RB (.ret)))),[.cell 4 24,.t 5]⟩
def LZ:C:=zR [0,1,4] [zq 4 (.alloc false (.agg 24 (List.replicate 8 (.int .u64 0)))),zm 5 (zi 0)]
def J4:C:=zR [0,1,4,9] [zm 6 0,zm 7 1,zC 8 (zf bH) [6,7],zq 9 (.un .not 8)]
def M3:C:=zR [4,5] [zq 10 (.bld (.agg 24 (List.replicate 8 (.int .u64 0))) []),zS 24 4 10,zm 5 (zi 1)]
def HH:C:=zR [0,1,4,14] [zm 11 0,zN 12 11,zF 13 33 2 0 12,zL 14 0 13]
def Kz:C:=zR [4,5] [zq 15 (.bld (.agg 24 (List.replicate 8 (.int .u64 0))) []),zS 24 4 15,zm 5 (zi 4)]
def IB:C:=zR [4,5] [zm 16 0,zm 17 1,zm 18 0,zN 19 18,zF 20 33 1 1 19,zL 21 1 20,zm 22 1,zq 23 (.sad 1 21 22),zL 24 1 23,zq 25 (.len false 24),zC 26 (zf dp) [16,17,25],zS 24 4 26,zm 5 (zi 0)]
@[go_sem] def eC:Fc:=⟨2,.seq LZ (.seq (.seq J4 (.cond (.t 9) (.seq M3 (.ret)) (.skip))) (.seq (.seq HH (.cond (.t 14) (.seq Kz (.ret)) (.skip))) (.seq IB (.ret)))),[.cell 4 24,.t 5]⟩
def QB:C:=zR [0,2] [zq 2 (.alloc false (.agg 48 (List.replicate 49 (.agg 42 [(.int .i64 0),(.int .i64 0),(.int .i64 0)]))))]
def IV:C:=zR [2] [zm 3 0,zN 4 3,zF 5 43 2 48 4,zL 6 48 5,zS 48 2 6]
@[go_sem] def ij:Fc:=⟨1,.seq QB (.seq IV (.ret)),[.cell 2 48]⟩
def J1:C:=zR [0] [zm 2 (.k .nilp),zm 3 (zi 0)]
def KZ:C:=zR [0,11] [zm 4 0,zq 5 (.len false 4),zB 6 .lss 5 (zi 64),zm 7 6,zg 8 7 false (.mv 0),zg 9 7 false (.len false 8),zg 10 7 false (.bin .gtr 9 (zi 1024)),zP 11 7 (.k (.bool true)) 10]
def J2:C:=zR [2,3] [zm 2 (.k .nilp),zm 3 (zi 1)]
def Nn:C:=zD [2,3] [zq 12 (.bsl true 58 24 (.agg 24 (List.replicate 8 (.int .u64 0))) 0 []),zm 13 0,zq 14 (.app true 58 24 12 13),zm 15 0,zq 16 (.len false 15),zq 17 (.mksl true 53 1 .nils 16 16),zq 18 (.bld (.agg 33 [.nils,.nils,(.bool false),(.int .i64 0),(.int .i64 0)]) [(0,14),(1,17),(3,(zi (-1)))]),zq 19 (.box true 18),zm 2 19,zm 3 (zi 0)]
@[go_sem] def jm:Fc:=⟨1,.seq J1 (.seq (.seq KZ (.cond (.t 11) (.seq J2 (.ret)) (.skip))) (.seq Nn (.ret))),[.t 2,.t 3]⟩
def J5:C:=zR [0,1] [zm 4 (.k .nilp),zm 5 (zi 0)]
def PU:C:=zR [0,1,18] [zm 8 0,zB 9 .lss 8 (zi 0),zm 10 9,zg 11 10 false (.mv 0),zg 12 10 false (.mv 1),zg 13 10 false (.bin .gtr 11 12),zP 14 10 (.k (.bool true)) 13,zm 15 14,zg 16 15 false (.mv 1),zg 17 15 false (.bin .gtr 16 (zi 1024)),zP 18 15 (.k (.bool true)) 17]
def Kt:C:=zR [4,5] [zm 4 (.k .nilp),zm 5 (zi 1)]
def QQ:C:=zR [0,1,6] [zm 19 0,zm 20 1,zq 21 (.bld (.agg 80 [(.int .i64 0),(.int .i64 0),(.agg 78 (List.replicate 16 (.int .u64 0))),(.agg 78 (List.replicate 16 (.int .u64 0)))]) [(0,19),(1,20)]),zq 22 (.box true 21),zm 6 22]
def Ke:C:=zR [0,6,25,26] [zm 23 1,zm 24 0,zB 25 .sub 23 24,zm 26 (zi 0)]
def Qz:C:=zR [0,6,25,26,27] [zB 27 .lss 26 25]
def Hr:C:=zR [0,6,7,25,26] [zm 28 26,zm 7 28]
def NN:C:=zR [0,6,25,26] [zm 29 6,zN 30 29,zF 31 80 2 78 30,zm 32 0,zm 33 7,zB 34 .add 32 33,zC 35 (zf aY) [31,34]]
def I9:C:=zR [0,6,25,26] [zB 36 .add 26 (zi 1),zm 26 36]
def Pq:C:=zR [4,5] [zm 37 6,zm 4 37,zm 5 (zi 0)]
def jW:C:=.seq Qz (.seq (.cond (.t 27) (.skip) (.exit 0)) (.seq (.block 1 (.seq Hr NN)) I9))
@[go_sem] def mV:Fc:=⟨2,.seq J5 (.seq (.seq PU (.cond (.t 18) (.seq Kt (.ret)) (.skip))) (.seq QQ (.seq (.seq Ke (.block 0 (.loop [0,6,25,26] jW))) (.seq Pq (.ret))))),[.t 4,.t 5]⟩
def KA:C:=zR [0] [zm 2 (zi 0)]
def Nd:C:=zR [2] [zm 3 0,zN 4 3,zF 5 59 0 1 4,zL 6 1 5,zq 7 (.len false 6),zm 2 7]
@[go_sem] def jz:Fc:=⟨1,.seq KA (.seq Nd (.ret)),[.t 2]⟩
def Qt:C:=zR [0,1] [zm 4 (zi 0)]
def J6:C:=zR [0,1,5] [zm 6 0,zm 7 1,zC 8 (zf cg) [6,7,(zi 0)],zm 5 8]
def Qd:C:=zR [0,1,5,10] [zm 9 5,zB 10 .eql 9 (zi 0)]
def OD:C:=zR [5] [zm 11 0,zN 12 11,zF 13 80 2 78 12,zm 14 1,zC 15 (zf aY) [13,14]]
def MB:C:=zR [4] [zm 16 5,zm 4 16]
@[go_sem] def iL:Fc:=⟨2,.seq Qt (.seq J6 (.seq (.seq Qd (.cond (.t 10) OD (.skip))) (.seq MB (.ret)))),[.t 4]⟩
def NS:C:=zR [0] [zm 2 0,zq 3 (.bld (.agg 82 (List.replicate 1024 (.bool false))) []),zN 4 2,zF 5 43 7 82 4,zS 82 5 3]
def OK:C:=zD [0] [zm 6 0,zN 7 6,zF 8 43 7 82 7,zm 9 0,zN 10 9,zF 11 43 3 48 10,zL 12 48 11,zC 13 (zf bv) [8,12]]
def HE:C:=zR [0,17] [zm 14 0,zN 15 14,zF 16 43 6 0 15,zL 17 0 16]
def KR:C:=zD [] [zm 18 0,zN 19 18,zF 20 43 7 82 19,zm 21 0,zN 22 21,zF 23 43 5 48 22,zL 24 48 23,zC 25 (zf bv) [20,24]]
@[go_sem] def it:Fc:=⟨1,.seq NS (.seq OK (.seq HE (.cond (.t 17) KR (.skip)))),[]⟩
def IU:C:=zR [0,1] [zm 4 (.k .nilp),zm 5 (zi 0)]
def N7:C:=zR [0,1,16] [zm 6 0,zB 7 .lss 6 (zi 0),zm 8 7,zg 9 8 false (.mv 0),zg 10 8 false (.mv 1),zg 11 8 false (.bin .gtr 9 10),zP 12 8 (.k (.bool true)) 11,zm 13 12,zg 14 13 false (.mv 1),zg 15 13 false (.bin .gtr 14 (zi 1024)),zP 16 13 (.k (.bool true)) 15]
def OB:C:=zR [4,5] [zm 4 (.k .nilp),zm 5 (zi 1)]
def Pu:C:=zR [4,5] [zm 17 0,zm 18 1,zm 19 0,zB 20 .sub 18 19,zq 21 (.mksl true 38 10 (.int .i64 0) 20 20),zq 22 (.bld (.agg 21 [(.int .i64 0),.nils]) [(0,17),(1,21)]),zq 23 (.box true 22),zm 4 23,zm 5 (zi 0)]
@[go_sem] def iM:Fc:=⟨2,.seq IU (.seq (.seq N7 (.cond (.t 16) (.seq OB (.ret)) (.skip))) (.seq Pu (.ret))),[.t 4,.t 5]⟩
def PS:C:=zR [1] [zq 1 (.box false 0),zm 2 (.k .nils)]
def Ow:C:=zR [1,3] [zm 3 (.k .nils)]
def Mk:C:=zR [1,3,4] [zm 4 (zi 0)]
def MP:C:=zR [1,3,4,6] [zm 5 4,zB 6 .lss 5 (zi 49)]
def J9:C:=zR [1,3,4,13] [zm 9 4,zq 10 (.iad 48 49 42 1 9),zF 11 42 0 10 10,zL 12 10 11,zB 13 .neq 12 (zi 0)]
def OA:C:=zR [1,3,4] [zm 14 3,zm 15 4,zq 16 (.iad 48 49 42 1 15),zF 17 42 2 10 16,zL 18 10 17,zq 19 (.bsl false 38 10 (.int .i64 0) 1 [(0,18)]),zq 20 (.app true 38 10 14 19),zm 3 20]
def P8:C:=zR [1,3,4] [zm 7 4,zB 8 .add 7 (zi 1),zm 4 8]
def Mb:C:=zR [2] [zm 21 3,zm 2 21]
def cS:C:=.seq (.seq MP (.cond (.t 6) (.skip) (.exit 0))) (.seq (.block 1 (.seq J9 (.cond (.t 13) OA (.skip)))) P8)
@[go_sem] def gG:Fc:=⟨1,.seq PS (.seq Ow (.seq (.seq Mk (.block 0 (.loop [1,3,4] cS))) (.seq Mb (.ret)))),[.t 2]⟩
def R2:C:=zR [0,1] [zm 4 (zi 0)]
def I7:C:=zR [4] [zm 5 0,zm 6 1,zC 7 (zf aN) [5,6,(zi 0),(zi 1)],zm 4 7]
@[go_sem] def eF:Fc:=⟨2,.seq R2 (.seq I7 (.ret)),[.t 4]⟩
def PC:C:=zR [0] [zm 2 (zi 0),zm 3 (zi 0)]
def QC:C:=zR [0,10,11] [zm 7 0,zN 8 7,zF 9 80 2 78 8,zL 10 78 9,zm 11 (zi 0)]
def Ix:C:=zR [0,10,11,12] [zB 12 .lss 11 (zi 16)]
def Q8:C:=zR [0,4,5,10,11] [zm 13 11,zq 14 (.idx 78 16 10 11),zm 4 13,zm 5 14]
def K0:C:=zR [0,4,5,10,11,16] [zm 15 5,zB 16 .neq 15 (.k (.int .u64 0))]
def PH:C:=zR [0,6] [zm 17 4,zB 18 .mul (zi 64) 17,zm 19 5,zC 20 (zf dq) [19],zB 21 .add 18 20,zm 6 21]
def Md:C:=zR [6] [zm 22 0,zN 23 22,zF 24 80 2 78 23,zm 25 6,zC 26 (zf aY) [24,25]]
def IP:C:=zR [2,3] [zm 27 6,zm 2 27,zm 3 (zi 0)]
def Ot:C:=zR [0,10,11] [zB 28 .add 11 (zi 1),zm 11 28]
def NW:C:=zR [2,3] [zm 2 (zi 0),zm 3 (zi 10)]
def dm:C:=.seq Ix (.seq (.cond (.t 12) (.skip) (.exit 0)) (.seq (.block 1 (.seq Q8 (.seq K0 (.cond (.t 16) (.seq PH (.seq Md (.seq IP (.ret)))) (.skip))))) Ot))
@[go_sem] def ii:Fc:=⟨1,.seq PC (.seq (.seq QC (.block 0 (.loop [0,10,11] dm))) (.seq NW (.ret))),[.t 2,.t 3]⟩
def Pk:C:=zR [0] [zm 2 (.k .nils)]
def Ma:C:=zR [0,4] [zm 3 0,zq 4 (.eq false 3 3 (.k .nils))]
def OH:C:=zR [2] [zm 2 (.k .nils)]
def IA:C:=zR [2] [zq 5 (.bsl true 57 55 (.agg 55 [(.agg 24 (List.replicate 8 (.int .u64 0))),(.agg 24 (List.replicate 8 (.int .u64 0))),.nils,(.agg 50 (List.replicate 8 (.int .i64 0)))]) 0 []),zm 6 0,zq 7 (.app true 57 55 5 6),zm 2 7]
@[go_sem] def gj:Fc:=⟨1,.seq Pk (.seq (.seq Ma (.cond (.t 4) (.seq OH (.ret)) (.skip))) (.seq IA (.ret))),[.t 2]⟩
def Kd:C:=zR [0] [zm 2 (.k .nils)]
def Np:C:=zR [0,4] [zm 3 0,zq 4 (.eq false 3 3 (.k .nils))]
def MX:C:=zR [2] [zm 2 (.k .nils)]
def Lo:C:=zR [2] [zq 5 (.bsl true 86 84 (.agg 84 [(.int .i64 0),(.int .u64 0)]) 0 []),zm 6 0,zq 7 (.app true 86 84 5 6),zm 2 7]
@[go_sem] def f7:Fc:=⟨1,.seq Kd (.seq (.seq Np (.cond (.t 4) (.seq MX (.ret)) (.skip))) (.seq Lo (.ret))),[.t 2]⟩
def HB:C:=zR [0] [zm 2 (.k .nilp)]
def NX:C:=zR [3] [zm 4 0,zN 5 4,zL 6 80 5,zq 3 (.alloc true (.agg 80 [(.int .i64 0),(.int .i64 0),(.agg 78 (List.replicate 16 (.int .u64 0))),(.agg 78 (List.replicate 16 (.int .u64 0)))])),zS 80 3 6]
def MT:C:=zR [2] [zm 2 3]
@[go_sem] def iq:Fc:=⟨1,.seq HB (.seq NX (.seq MT (.ret))),[.t 2]⟩
def Oa:C:=zR [0,3] [zq 3 (.box false 1),zm 4 (zi 0),zm 5 (zi 0)]
def Rn:C:=zR [0,3,6,7] [zm 12 0,zN 13 12,zF 14 43 1 1 13,zL 15 1 14,zC 16 (zf bD) [15],zm 11 16,zE 17 11 0,zE 18 11 1,zm 6 17,zm 7 18]
def ID:C:=zR [0,3,6,7,20] [zm 19 7,zB 20 .neq 19 (zi 0)]
def PF:C:=zR [4,5] [zm 21 7,zm 4 (zi 0),zm 5 21]
def Lg:C:=zR [0,6,22,23] [zL 22 24 3,zm 23 (zi 0)]
def P4:C:=zR [0,6,22,23,24] [zB 24 .lss 23 (zi 8)]
def MR:C:=zR [0,6,8,9,22,23] [zm 25 23,zq 26 (.idx 24 8 22 23),zm 8 25,zm 9 26]
def LG:C:=zR [0,6,10,22,23] [zm 27 0,zN 28 27,zF 29 43 0 1 28,zL 30 1 29,zm 31 6,zm 32 8,zm 33 9,zC 34 (zf dQ) [30,31,32,33],zm 10 34]
def KS:C:=zR [0,6,10,22,23,36] [zm 35 10,zB 36 .neq 35 (zi 0)]
def I3:C:=zR [4,5] [zm 37 10,zm 4 (zi 0),zm 5 37]
def DD:C:=zR [0,6,22,23] [zB 38 .add 23 (zi 1),zm 23 38]
def Ej:C:=zR [4,5] [zm 39 6,zm 4 39,zm 5 (zi 0)]
def dV:C:=.seq P4 (.seq (.cond (.t 24) (.skip) (.exit 0)) (.seq (.block 1 (.seq MR (.seq LG (.seq KS (.cond (.t 36) (.seq I3 (.ret)) (.skip)))))) DD))
@[go_sem] def i6:Fc:=⟨2,.seq Oa (.seq Rn (.seq (.seq ID (.cond (.t 20) (.seq PF (.ret)) (.skip))) (.seq (.seq Lg (.block 0 (.loop [0,6,22,23] dV))) (.seq Ej (.ret))))),[.t 4,.t 5]⟩
def JN:C:=zR [0,1] [zm 4 (zi 0)]
def IE:C:=zR [0,1,5] [zm 6 1,zB 7 .lss 6 (zi 0),zm 5 7]
def QW:C:=zR [0,1,5] [zm 8 1,zB 9 .geq 8 (zi 49),zm 5 9]
def O9:C:=zR [4] [zm 4 (zi 1)]
def Ml:C:=zR [10] [zm 11 0,zm 12 1,zN 13 11,zF 14 43 2 48 13,zq 15 (.iad 48 49 42 14 12),zF 16 42 0 10 15,zL 17 10 16,zB 18 .eql 17 (zi 0),zm 10 18]
def QF:C:=zR [4] [zm 4 (zi 30)]
def Lz:C:=zR [4] [zm 4 (zi 0)]
@[go_sem] def jE:Fc:=⟨2,.seq JN (.seq (.block 0 (.seq (.seq IE (.cond (.t 5) (.skip) QW)) (.cond (.t 5) (.seq O9 (.ret)) (.seq Ml (.cond (.t 10) (.seq QF (.ret)) (.skip)))))) (.seq Lz (.ret))),[.t 4]⟩
def NY:C:=zR [0,1] [zm 4 (.k (.bool false))]
def KG:C:=zD [4] [zm 5 0,zm 6 0,zm 7 1,zN 8 6,zF 9 43 2 48 8,zq 10 (.iad 48 49 42 9 7),zF 11 42 2 10 10,zL 12 10 11,zN 13 5,zF 14 43 7 82 13,zq 15 (.iad 82 1024 0 14 12),zL 16 0 15,zq 17 (.un .not 16),zm 4 17]
@[go_sem] def je:Fc:=⟨2,.seq NY (.seq KG (.ret)),[.t 4]⟩
def K9:C:=zR [0,1,2,3] [zm 8 (zi 0)]
def Rq:C:=zR [0,2,3,9] [zm 11 0,zm 12 1,zC 13 (zf fF) [11,12],zm 9 13]
def MG:C:=zR [0,2,3,9,23] [zm 14 9,zq 15 (.eq false 1 14 (.k .nilp)),zm 16 15,zg 17 16 false (.mv 2),zg 18 16 false (.bin .lss 17 (zi 0)),zP 19 16 (.k (.bool true)) 18,zm 20 19,zg 21 20 false (.mv 2),zg 22 20 false (.bin .geq 21 (zi 8)),zP 23 20 (.k (.bool true)) 22]
def N1:C:=zR [8] [zm 8 (zi 1)]
def PG:C:=zR [2,3,9,10] [zm 24 0,zC 25 (zf ep) [24],zm 10 25]
def Rm:C:=zR [2,3,9,10,27] [zm 26 10,zB 27 .neq 26 (zi 0)]
def OF:C:=zR [8] [zm 28 10,zm 8 28]
def Il:C:=zR [2,3,9] [zm 29 9,zm 30 2,zm 31 3,zN 32 29,zF 33 55 0 24 32,zq 34 (.iad 24 8 18 33 30),zS 18 34 31]
def QE:C:=zR [] [zm 35 9,zm 36 9,zN 37 36,zF 38 55 2 1 37,zL 39 1 38,zm 40 2,zm 41 3,zq 42 (.bld (.agg 84 [(.int .i64 0),(.int .u64 0)]) [(0,40),(1,41)]),zq 43 (.bsl false 86 84 (.agg 84 [(.int .i64 0),(.int .u64 0)]) 1 [(0,42)]),zq 44 (.app true 86 84 39 43),zN 45 35,zF 46 55 2 1 45,zS 1 46 44]
def KH:C:=zR [8] [zm 8 (zi 0)]
@[go_sem] def jx:Fc:=⟨4,.seq K9 (.seq Rq (.seq (.seq MG (.cond (.t 23) (.seq N1 (.ret)) (.skip))) (.seq (.seq PG (.seq Rm (.cond (.t 27) (.seq OF (.ret)) (.skip)))) (.seq Il (.seq QE (.seq KH (.ret))))))),[.t 8]⟩
def LN:C:=zR [0] [zm 2 (zi 0)]
def Ph:C:=zR [0,3] [zm 3 (zi 0)]
def RY:C:=zR [3,9,10] [zm 6 0,zN 7 6,zF 8 80 2 78 7,zL 9 78 8,zm 10 (zi 0)]
def R7:C:=zR [3,9,10,11] [zB 11 .lss 10 (zi 16)]
def Ll:C:=zR [3,5,9,10] [zq 12 (.idx 78 16 9 10),zm 5 12]
def KB:C:=zR [3,9,10] [zm 13 3,zm 14 5,zC 15 (zf eJ) [14],zB 16 .add 13 15,zm 3 16]
def K2:C:=zR [3,9,10] [zB 17 .add 10 (zi 1),zm 10 17]
def LR:C:=zR [2] [zm 18 3,zm 2 18]
def eX:C:=.seq R7 (.seq (.cond (.t 11) (.skip) (.exit 0)) (.seq (.block 1 (.seq Ll KB)) K2))
@[go_sem] def iS:Fc:=⟨1,.seq LN (.seq Ph (.seq (.seq RY (.block 0 (.loop [3,9,10] eX))) (.seq LR (.ret)))),[.t 2]⟩
def RP:C:=zR [0,1,2,3] [zm 8 (zi 0)]
def PZ:C:=zR [0,1,2,3,25] [zm 12 1,zB 13 .lss 12 (zi 0),zm 14 13,zg 15 14 false (.mv 1),zg 16 14 false (.bin .geq 15 (zi 49)),zP 17 14 (.k (.bool true)) 16,zm 18 17,zg 19 18 false (.mv 2),zg 20 18 false (.bin .lss 19 (zi 0)),zP 21 18 (.k (.bool true)) 20,zm 22 21,zg 23 22 false (.mv 2),zg 24 22 false (.bin .gtr 23 (zi 7)),zP 25 22 (.k (.bool true)) 24]
def Oi:C:=zR [8] [zm 8 (zi 1)]
def Hy:C:=zR [0,1,2,3,33] [zm 26 0,zm 27 1,zN 28 26,zF 29 31 2 48 28,zq 30 (.iad 48 49 42 29 27),zF 31 42 0 10 30,zL 32 10 31,zB 33 .eql 32 (zi 0)]
def IX:C:=zR [8] [zm 8 (zi 30)]
def Mi:C:=zR [0,1,2,3,36] [zm 34 0,zm 35 1,zC 36 (zf aZ) [34,35]]
def NU:C:=zD [8] [zm 37 0,zN 38 37,zF 39 31 0 1 38,zL 40 1 39,zm 41 0,zm 42 1,zN 43 41,zF 44 31 2 48 43,zq 45 (.iad 48 49 42 44 42),zF 46 42 2 10 45,zL 47 10 46,zm 48 2,zm 49 3,zC 50 (zf bn) [40,47,48,49],zm 8 50]
def PY:C:=zR [0,1,2,3,56] [zm 51 0,zN 52 51,zF 53 31 1 1 52,zL 54 1 53,zC 55 (zf aI) [54],zB 56 .eql 55 (zi 0)]
def Pj:C:=zR [8] [zm 8 (zi 10)]
def LA:C:=zD [0,1,2,3,9,10] [zm 58 0,zN 59 58,zF 60 31 0 1 59,zL 61 1 60,zm 62 0,zm 63 1,zN 64 62,zF 65 31 2 48 64,zq 66 (.iad 48 49 42 65 63),zF 67 42 2 10 66,zL 68 10 67,zq 69 (.pcall (zf aW) [61,68]),zm 57 69,zE 70 57 0,zE 71 57 1,zq 9 (.alloc false (.agg 24 (List.replicate 8 (.int .u64 0)))),zS 24 9 70,zm 10 71]
def Dv:C:=zR [0,1,2,3,9,10,73] [zm 72 10,zB 73 .neq 72 (zi 0)]
def CZ:C:=zR [8] [zm 74 10,zm 8 74]
def CF:C:=zR [0,1,9] [zm 75 2,zm 76 3,zq 77 (.iad 24 8 18 9 75),zS 18 77 76]
def C5:C:=zR [0,1,10,11] [zm 79 0,zL 80 24 9,zC 81 (zf bI) [79,80],zm 78 81,zE 82 78 0,zE 83 78 1,zm 11 82,zm 10 83]
def Cs:C:=zR [0,1,10,11,85] [zm 84 10,zB 85 .eql 84 (zi 0)]
def EN:C:=zR [10] [zm 86 0,zm 87 1,zm 88 11,zN 89 86,zF 90 31 2 48 89,zq 91 (.iad 48 49 42 90 87),zF 92 42 2 10 91,zS 10 92 88]
def D4:C:=zR [8] [zm 93 10,zm 8 93]
@[go_sem] def fw:Fc:=⟨4,.seq RP (.seq (.seq PZ (.cond (.t 25) (.seq Oi (.ret)) (.skip))) (.seq (.seq Hy (.cond (.t 33) (.seq IX (.ret)) (.skip))) (.seq (.seq Mi (.cond (.t 36) (.seq NU (.ret)) (.skip))) (.seq (.seq PY (.cond (.t 56) (.seq Pj (.ret)) (.skip))) (.seq LA (.seq (.seq Dv (.cond (.t 73) (.seq CZ (.ret)) (.skip))) (.seq CF (.seq C5 (.seq (.seq Cs (.cond (.t 85) EN (.skip))) (.seq D4 (.ret))))))))))),[.t 8]⟩
def R3:C:=zR [0,1] [zm 4 (zi 0),zm 5 (zi 0)]
def MA:C:=zR [0,1,6,7,8] [zm 11 0,zm 12 1,zC 13 (zf bE) [11,12],zm 10 13,zE 14 10 0,zE 15 10 1,zE 16 10 2,zm 6 14,zm 7 15,zm 8 16]
def N9:C:=zR [0,1,6,7,8,18] [zm 17 8,zB 18 .neq 17 (zi 0)]
def PD:C:=zR [4,5] [zm 19 8,zm 4 (zi 0),zm 5 19]
def Is:C:=zR [0,1,6,7,8,9] [zm 21 0,zq 22 (.bld (.agg 24 (List.replicate 8 (.int .u64 0))) []),zC 23 (zf bI) [21,22],zm 20 23,zE 24 20 0,zE 25 20 1,zm 9 24,zm 8 25]
def QL:C:=zR [0,1,6,7,8,9,27] [zm 26 8,zB 27 .neq 26 (zi 0)]
def IT:C:=zR [4,5] [zm 28 8,zm 4 (zi 0),zm 5 28]
def Oh:C:=zR [6] [zm 29 0,zm 30 6,zm 31 1,zm 32 7,zm 33 9,zq 34 (.bld (.agg 42 [(.int .i64 0),(.int .i64 0),(.int .i64 0)]) [(0,31),(1,32),(2,33)]),zN 35 29,zF 36 31 2 48 35,zq 37 (.iad 48 49 42 36 30),zS 42 37 34]
def Kg:C:=zR [4,5] [zm 38 6,zm 4 38,zm 5 (zi 0)]
@[go_sem] def eR:Fc:=⟨2,.seq R3 (.seq MA (.seq (.seq N9 (.cond (.t 18) (.seq PD (.ret)) (.skip))) (.seq Is (.seq (.seq QL (.cond (.t 27) (.seq IT (.ret)) (.skip))) (.seq Oh (.seq Kg (.ret))))))),[.t 4,.t 5]⟩
def Ip:C:=zR [0,1] [zm 4 (zi 0)]
def MH:C:=zR [0,1,5] [zm 6 0,zm 7 1,zC 8 (zf bg) [6,7],zm 5 8]
def Ra:C:=zR [0,1,5,10] [zm 9 5,zB 10 .neq 9 (zi 0)]
def RA:C:=zR [4] [zm 11 5,zm 4 11]
def Ry:C:=zR [0,1,14] [zm 12 0,zm 13 1,zC 14 (zf bw) [12,13]]
def KL:C:=zD [0,1] [zm 15 0,zN 16 15,zF 17 43 1 1 16,zL 18 1 17,zm 19 0,zm 20 1,zN 21 19,zF 22 43 2 48 21,zq 23 (.iad 48 49 42 22 20),zF 24 42 2 10 23,zL 25 10 24,zC 26 (zf dg) [18,25]]
def Iy:C:=zD [] [zm 28 0,zm 29 1,zm 30 0,zm 31 1,zN 32 30,zF 33 43 2 48 32,zq 34 (.iad 48 49 42 33 31),zL 35 42 34,zq 36 (.pcall (zf mi) [35]),zm 27 36,zE 37 27 0,zE 38 27 1,zN 39 28,zF 40 43 2 48 39,zq 41 (.iad 48 49 42 40 29),zS 42 41 37]
def Kf:C:=zR [4] [zm 4 (zi 0)]
@[go_sem] def i5:Fc:=⟨2,.seq Ip (.seq (.seq MH (.seq Ra (.cond (.t 10) (.seq RA (.ret)) (.skip)))) (.seq (.seq Ry (.cond (.t 14) KL (.skip))) (.seq Iy (.seq Kf (.ret))))),[.t 4]⟩
def RL:C:=zR [0,1] [zm 4 (zi 0)]
def RZ:C:=zR [0,1,5] [zm 8 0,zm 9 1,zC 10 (zf aX) [8,9],zm 5 10]
def Qm:C:=zR [0,1,5,12] [zm 11 5,zB 12 .neq 11 (zi 0)]
def JO:C:=zR [4] [zm 13 5,zm 4 13]
def Lw:C:=zR [0,1,16] [zm 14 0,zm 15 1,zC 16 (zf aZ) [14,15]]
def PO:C:=zD [0,1] [zm 17 0,zN 18 17,zF 19 31 1 1 18,zL 20 1 19,zm 21 0,zm 22 1,zN 23 21,zF 24 31 2 48 23,zq 25 (.iad 48 49 42 24 22),zF 26 42 2 10 25,zL 27 10 26,zC 28 (zf bd) [20,27]]
def Ht:C:=zR [0,1,6] [zm 30 0,zm 31 1,zN 32 30,zF 33 31 2 48 32,zq 34 (.iad 48 49 42 33 31),zL 35 42 34,zC 36 (zf f6) [35],zm 29 36,zE 37 29 0,zE 38 29 1,zq 6 (.alloc false (.agg 42 [(.int .i64 0),(.int .i64 0),(.int .i64 0)])),zS 42 6 37,zm 7 38]
def OJ:C:=zD [] [zm 39 0,zm 40 1,zL 41 42 6,zN 42 39,zF 43 31 2 48 42,zq 44 (.iad 48 49 42 43 40),zS 42 44 41]
def LL:C:=zR [4] [zm 4 (zi 0)]
@[go_sem] def fv:Fc:=⟨2,.seq RL (.seq RZ (.seq (.seq Qm (.cond (.t 12) (.seq JO (.ret)) (.skip))) (.seq (.seq Lw (.cond (.t 16) PO (.skip))) (.seq Ht (.seq OJ (.seq LL (.ret))))))),[.t 4]⟩
def Ny:C:=zR [0] [zm 2 (zi 0)]
def Qj:C:=zR [0,6] [zm 3 0,zN 4 3,zF 5 31 6 0 4,zL 6 0 5]
def KF:C:=zR [2] [zm 2 (zi 3)]
def Qr:C:=zR [0] [zm 7 0,zm 8 0,zN 9 8,zF 10 31 2 48 9,zL 11 48 10,zN 12 7,zF 13 31 5 48 12,zS 48 13 11]
def Pp:C:=zR [] [zm 14 0,zN 15 14,zF 16 31 6 0 15,zS 0 16 (.k (.bool true))]
def NQ:C:=zR [2] [zm 2 (zi 0)]
@[go_sem] def eQ:Fc:=⟨1,.seq Ny (.seq (.seq Qj (.cond (.t 6) (.seq KF (.ret)) (.skip))) (.seq Qr (.seq Pp (.seq NQ (.ret))))),[.t 2]⟩
def O5:C:=zR [0,3] [zq 3 (.box false 1),zm 4 (zi 0)]
def NJ:C:=zR [0,3,9] [zm 5 0,zN 6 5,zF 7 43 6 0 6,zL 8 0 7,zq 9 (.un .not 8)]
def KU:C:=zR [4] [zm 4 (zi 3)]
def N3:C:=zD [0] [zm 10 0,zm 11 0,zm 12 0,zN 13 12,zF 14 43 5 48 13,zL 15 48 14,zL 16 50 3,zN 17 10,zF 18 43 3 48 17,zw (.sta 48 18 15 [3]),zN 19 11,zF 20 43 4 50 19,zS 50 20 16]
def HP:C:=zR [] [zm 21 0,zC 22 (zf cv) [21]]
def RN:C:=zR [4] [zm 4 (zi 0)]
@[go_sem] def gz:Fc:=⟨2,.seq O5 (.seq (.seq NJ (.cond (.t 9) (.seq KU (.ret)) (.skip))) (.seq N3 (.seq HP (.seq RN (.ret))))),[.t 4]⟩
def KW:C:=zR [0,3] [zq 3 (.box false 1),zm 4 (zi 0)]
def LB:C:=zR [0,3,9] [zm 5 0,zN 6 5,zF 7 31 6 0 6,zL 8 0 7,zq 9 (.un .not 8)]
def Q4:C:=zR [4] [zm 4 (zi 3)]
def Rh:C:=zR [0,3] [zm 10 0,zm 11 0,zN 12 11,zF 13 31 5 48 12,zL 14 48 13,zN 15 10,zF 16 31 3 48 15,zS 48 16 14]
def LP:C:=zR [0] [zm 17 0,zL 18 50 3,zN 19 17,zF 20 31 4 50 19,zS 50 20 18]
def Lr:C:=zR [0] [zm 21 0,zN 22 21,zF 23 31 6 0 22,zS 0 23 (.k (.bool false))]
def Ic:C:=zR [] [zm 24 0,zC 25 (zf bC) [24]]
def Rc:C:=zR [4] [zm 4 (zi 0)]
@[go_sem] def ec:Fc:=⟨2,.seq KW (.seq (.seq LB (.cond (.t 9) (.seq Q4 (.ret)) (.skip))) (.seq Rh (.seq LP (.seq Lr (.seq Ic (.seq Rc (.ret))))))),[.t 4]⟩
def Mh:C:=zR [0] [zm 2 (zi 0)]
def HK:C:=zR [0,7] [zm 3 0,zN 4 3,zF 5 43 6 0 4,zL 6 0 5,zq 7 (.un .not 6)]
def Jk:C:=zR [2] [zm 2 (zi 3)]
def R6:C:=zR [] [zm 8 0,zC 9 (zf cv) [8]]
def LM:C:=zR [2] [zm 2 (zi 0)]
@[go_sem] def ir:Fc:=⟨1,.seq Mh (.seq (.seq HK (.cond (.t 7) (.seq Jk (.ret)) (.skip))) (.seq R6 (.seq LM (.ret)))),[.t 2]⟩
def ML:C:=zR [0] [zm 2 (zi 0)]
def Pm:C:=zR [0,7] [zm 3 0,zN 4 3,zF 5 31 6 0 4,zL 6 0 5,zq 7 (.un .not 6)]
def Pb:C:=zR [2] [zm 2 (zi 3)]
def JS:C:=zR [0] [zm 8 0,zN 9 8,zF 10 31 6 0 9,zS 0 10 (.k (.bool false))]
def Jc:C:=zR [] [zm 11 0,zC 12 (zf bC) [11]]
def Mo:C:=zR [2] [zm 2 (zi 0)]
@[go_sem] def eD:Fc:=⟨1,.seq ML (.seq (.seq Pm (.cond (.t 7) (.seq Pb (.ret)) (.skip))) (.seq JS (.seq Jc (.seq Mo (.ret))))),[.t 2]⟩
def Ji:C:=zR [0,1,2] [zm 6 (.k (.bool false))]
def KT:C:=zR [0,1,2,7] [zq 7 (.alloc false (.agg 32 (List.replicate 49 (.bool false))))]
def KQ:C:=zR [0,1,2,7,8] [zm 11 0,zN 12 11,zF 13 43 1 1 12,zL 14 1 13,zC 15 (zf bq) [14],zm 8 15]
def Ps:C:=zR [0,2,7,8,16,17,18] [zm 16 1,zq 17 (.len false 16),zm 18 (zi 0)]
def KI:C:=zR [0,2,7,8,16,17,18,19] [zB 19 .lss 18 17]
def MW:C:=zR [0,2,7,8,10,16,17,18] [zq 20 (.sad 10 16 18),zL 21 10 20,zm 10 21]
def Rx:C:=zR [0,2,7,8,10,16,17,18,37] [zm 22 0,zm 23 10,zC 24 (zf bg) [22,23],zB 25 .eql 24 (zi 0),zm 26 25,zg 27 26 true (.mv 0),zg 28 26 true (.mv 10),zg 29 26 true (.call (zf bw) [27,28]),zg 30 26 true (.un .not 29),zP 31 26 30 (.k (.bool false)),zm 32 31,zg 33 32 true (.mv 10),zg 34 32 true (.iad 32 49 0 7 33),zg 35 32 true (.ld 0 34),zg 36 32 true (.un .not 35),zP 37 32 36 (.k (.bool false))]
def HW:C:=zR [0,2,7,8,16,17,18] [zm 38 10,zq 39 (.iad 32 49 0 7 38),zS 0 39 (.k (.bool true))]
def LK:C:=zR [0,2,7,8,16,17,18] [zm 40 8,zB 41 .sub 40 (zi 1),zm 8 41]
def Qf:C:=zR [0,2,7,8,16,17,18] [zB 42 .add 18 (zi 1),zm 18 42]
def Ct:C:=zR [6] [zm 43 2,zB 44 .geq 43 (zi 0),zm 45 44,zg 46 45 true (.mv 8),zg 47 45 true (.mv 2),zg 48 45 true (.bin .geq 46 47),zP 49 45 48 (.k (.bool false)),zm 6 49]
def bR:C:=.seq KI (.seq (.cond (.t 19) (.skip) (.exit 0)) (.seq (.block 1 (.seq MW (.seq Rx (.cond (.t 37) (.seq HW LK) (.skip))))) Qf))
@[go_sem] def iD:Fc:=⟨3,.seq Ji (.seq KT (.seq KQ (.seq (.seq Ps (.block 0 (.loop [0,2,7,8,16,17,18] bR))) (.seq Ct (.ret))))),[.t 6]⟩
def Kn:C:=zR [0,1,2] [zm 6 (.k (.bool false))]
def LW:C:=zR [0,1,2,7] [zm 7 (zi 0)]
def Ia:C:=zR [0,1,2,7,8] [zm 8 (zi 0)]
def IS:C:=zR [0,1,2,7,8,12] [zm 9 8,zm 10 1,zq 11 (.len false 10),zB 12 .lss 9 11]
def Nu:C:=zD [0,1,2,7,8,41] [zm 15 0,zm 16 1,zm 17 8,zq 18 (.sad 10 16 17),zL 19 10 18,zq 20 (.pcall (zf aX) [15,19]),zB 21 .eql 20 (zi 0),zm 22 21,zg 23 22 true (.mv 0),zg 24 22 true (.mv 1),zg 25 22 true (.mv 8),zg 26 22 true (.sad 10 24 25),zg 27 22 true (.ld 10 26),zg 28 22 true (.call (zf aZ) [23,27]),zg 29 22 true (.un .not 28),zP 30 22 29 (.k (.bool false)),zm 31 30,zg 32 31 true (.mv 1),zg 33 31 true (.mv 8),zg 34 31 true (.slc 10 32 none (some 33) none),zg 35 31 true (.mv 1),zg 36 31 true (.mv 8),zg 37 31 true (.sad 10 35 36),zg 38 31 true (.ld 10 37),zg 39 31 true (.pcall (zf bc) [34,38]),zg 40 31 true (.un .not 39),zP 41 31 40 (.k (.bool false))]
def OM:C:=zR [0,1,2,7,8] [zm 42 7,zB 43 .add 42 (zi 1),zm 7 43]
def Qs:C:=zR [0,1,2,7,8] [zm 13 8,zB 14 .add 13 (zi 1),zm 8 14]
def MK:C:=zR [6] [zm 44 2,zB 45 .geq 44 (zi 0),zm 46 45,zg 47 46 true (.mv 0),zg 48 46 true (.nilc 47),zg 49 46 true (.fad 31 1 1 48),zg 50 46 true (.ld 1 49),zg 51 46 true (.call (zf aI) [50]),zg 52 46 true (.mv 7),zg 53 46 true (.bin .sub 51 52),zg 54 46 true (.mv 2),zg 55 46 true (.bin .geq 53 54),zP 56 46 55 (.k (.bool false)),zm 6 56]
def a8:C:=.seq (.seq IS (.cond (.t 12) (.skip) (.exit 0))) (.seq (.block 1 (.seq Nu (.cond (.t 41) OM (.skip)))) Qs)
@[go_sem] def eO:Fc:=⟨3,.seq Kn (.seq LW (.seq (.seq Ia (.block 0 (.loop [0,1,2,7,8] a8))) (.seq MK (.ret)))),[.t 6]⟩
def Pw:C:=zR [0,1] [zm 4 (zi 0)]
def Mm:C:=zR [0,1,10] [zm 5 1,zB 6 .lss 5 (zi 0),zm 7 6,zg 8 7 false (.mv 1),zg 9 7 false (.bin .geq 8 (zi 49)),zP 10 7 (.k (.bool true)) 9]
def PP:C:=zR [4] [zm 4 (zi 1)]
def JG:C:=zR [18] [zm 11 0,zm 12 1,zN 13 11,zF 14 31 2 48 13,zq 15 (.iad 48 49 42 14 12),zF 16 42 0 10 15,zL 17 10 16,zB 18 .eql 17 (zi 0)]
def MU:C:=zR [4] [zm 4 (zi 30)]
def Ng:C:=zR [4] [zm 4 (zi 0)]
@[go_sem] def fO:Fc:=⟨2,.seq Pw (.seq (.seq Mm (.cond (.t 10) (.seq PP (.ret)) (.skip))) (.seq (.seq JG (.cond (.t 18) (.seq MU (.ret)) (.skip))) (.seq Ng (.ret)))),[.t 4]⟩
def Iz:C:=zR [0,2] [zq 2 (.alloc false (.agg 40 [(.int .i64 0),(.int .i64 0),(.int .i64 0),(.int .i64 0),(.int .i64 0)])),zm 3 (.k (.bool false))]
def Jo:C:=zR [2,4] [zm 5 0,zB 6 .and 5 (.k (.int .u64 15)),zq 7 (.conv .i64 6),zm 8 0,zB 9 .shr 8 (.k (.int .u64 4)),zB 10 .and 9 (.k (.int .u64 15)),zq 11 (.conv .i64 10),zm 12 0,zB 13 .shr 12 (.k (.int .u64 8)),zB 14 .and 13 (.k (.int .u64 65535)),zq 15 (.conv .i64 14),zm 16 0,zB 17 .shr 16 (.k (.int .u64 24)),zB 18 .and 17 (.k (.int .u64 16777215)),zq 19 (.conv .i64 18),zm 20 0,zB 21 .shr 20 (.k (.int .u64 48)),zq 22 (.conv .i64 21),zq 23 (.bld (.agg 40 [(.int .i64 0),(.int .i64 0),(.int .i64 0),(.int .i64 0),(.int .i64 0)]) [(0,7),(1,11),(2,15),(3,19),(4,22)]),zq 4 (.alloc false (.agg 40 [(.int .i64 0),(.int .i64 0),(.int .i64 0),(.int .i64 0),(.int .i64 0)])),zS 40 4 23]
def NH:C:=zR [2,4,26] [zL 24 40 4,zC 25 (zf m6) [24],zq 26 (.un .not 25)]
def MN:C:=zR [2,3] [zq 27 (.bld (.agg 40 [(.int .i64 0),(.int .i64 0),(.int .i64 0),(.int .i64 0),(.int .i64 0)]) []),zS 40 2 27,zm 3 (.k (.bool false))]
def Ih:C:=zR [2,3] [zL 28 40 4,zS 40 2 28,zm 3 (.k (.bool true))]
@[go_sem] def qA:Fc:=⟨1,.seq Iz (.seq Jo (.seq (.seq NH (.cond (.t 26) (.seq MN (.ret)) (.skip))) (.seq Ih (.ret)))),[.cell 2 40,.t 3]⟩
def NZ:C:=zR [1,2,3] [zq 3 (.box false 0),zm 6 (zi 0)]
def IJ:C:=zR [1,3,7,8] [zm 10 2,zC 11 (zf kw) [10],zm 9 11,zE 12 9 0,zE 13 9 1,zq 7 (.alloc false (.agg 40 [(.int .i64 0),(.int .i64 0),(.int .i64 0),(.int .i64 0),(.int .i64 0)])),zS 40 7 12,zm 8 13]
def HI:C:=zR [1,3,7,14] [zm 15 8,zq 16 (.un .not 15),zm 14 16]
def O4:C:=zR [1,3,7,14] [zF 17 40 0 10 7,zL 18 10 17,zB 19 .gtr 18 (zi 4),zm 14 19]
def KP:C:=zR [6] [zm 6 (zi 31)]
def Mn:C:=zR [3,7,20] [zF 21 40 2 10 7,zL 22 10 21,zm 23 1,zB 24 .neq 22 23,zm 20 24]
def QH:C:=zR [6] [zm 6 (zi 30)]
def Kj:C:=zR [3,7,25] [zF 26 40 3 10 7,zL 27 10 26,zF 28 42 1 10 3,zL 29 10 28,zB 30 .neq 27 29,zm 25 30]
def O0:C:=zR [6] [zm 6 (zi 33)]
def LT:C:=zR [3,7,31] [zF 32 42 0 10 3,zL 33 10 32,zB 34 .eql 33 (zi 0),zm 31 34]
def CK:C:=zR [6] [zm 6 (zi 30)]
def DZ:C:=zR [35] [zF 36 40 0 10 7,zL 37 10 36,zF 38 42 0 10 3,zL 39 10 38,zB 40 .neq 37 39,zm 35 40]
def D7:C:=zR [6] [zm 6 (zi 31)]
def Fj:C:=zR [6] [zm 6 (zi 0)]
@[go_sem] def l7:Fc:=⟨3,.seq NZ (.seq IJ (.seq (.block 0 (.seq (.seq HI (.cond (.t 14) (.skip) O4)) (.cond (.t 14) (.seq KP (.ret)) (.seq Mn (.cond (.t 20) (.seq QH (.ret)) (.seq Kj (.cond (.t 25) (.seq O0 (.ret)) (.seq LT (.cond (.t 31) (.seq CK (.ret)) (.seq DZ (.cond (.t 35) (.seq D7 (.ret)) (.skip)))))))))))) (.seq Fj (.ret)))),[.t 6]⟩
def HA:C:=zR [0,2] [zq 2 (.alloc false (.agg 40 [(.int .i64 0),(.int .i64 0),(.int .i64 0),(.int .i64 0),(.int .i64 0)])),zm 3 (.k (.bool false))]
def Qu:C:=zR [0,2,4] [zm 7 0,zC 8 (zf aL) [7,(zi 0),(zi 4)],zq 9 (.conv .i64 8),zm 10 0,zC 11 (zf aL) [10,(zi 4),(zi 4)],zq 12 (.conv .i64 11),zm 13 0,zC 14 (zf aL) [13,(zi 8),(zi 16)],zq 15 (.conv .i64 14),zm 16 0,zC 17 (zf aL) [16,(zi 24),(zi 24)],zq 18 (.conv .i64 17),zm 19 0,zC 20 (zf aL) [19,(zi 48),(zi 16)],zq 21 (.conv .i64 20),zq 22 (.bld (.agg 40 [(.int .i64 0),(.int .i64 0),(.int .i64 0),(.int .i64 0),(.int .i64 0)]) [(0,9),(1,12),(2,15),(3,18),(4,21)]),zq 4 (.alloc false (.agg 40 [(.int .i64 0),(.int .i64 0),(.int .i64 0),(.int .i64 0),(.int .i64 0)])),zS 40 4 22]
def Pf:C:=zR [0,2,4,5,6] [zL 24 40 4,zC 25 (zf fJ) [24],zm 23 25,zE 26 23 0,zE 27 23 1,zm 5 26,zm 6 27]
def OC:C:=zR [2,4,34] [zm 28 6,zB 29 .neq 28 (zi 0),zm 30 29,zg 31 30 false (.mv 5),zg 32 30 false (.mv 0),zg 33 30 false (.bin .neq 31 32),zP 34 30 (.k (.bool true)) 33]
def Nm:C:=zR [2,3] [zq 35 (.bld (.agg 40 [(.int .i64 0),(.int .i64 0),(.int .i64 0),(.int .i64 0),(.int .i64 0)]) []),zS 40 2 35,zm 3 (.k (.bool false))]
def Rt:C:=zR [2,3] [zL 36 40 4,zS 40 2 36,zm 3 (.k (.bool true))]
@[go_sem] def jd:Fc:=⟨1,.seq HA (.seq Qu (.seq Pf (.seq (.seq OC (.cond (.t 34) (.seq Nm (.ret)) (.skip))) (.seq Rt (.ret))))),[.cell 2 40,.t 3]⟩
def Jj:C:=zR [1,2,3] [zq 3 (.box false 0),zm 6 (zi 0)]
def M0:C:=zR [1,3,7,8] [zm 10 2,zC 11 (zf dw) [10],zm 9 11,zE 12 9 0,zE 13 9 1,zq 7 (.alloc false (.agg 40 [(.int .i64 0),(.int .i64 0),(.int .i64 0),(.int .i64 0),(.int .i64 0)])),zS 40 7 12,zm 8 13]
def Mu:C:=zR [1,3,7,25] [zm 14 8,zq 15 (.un .not 14),zm 16 15,zg 17 16 false (.fad 40 0 10 7),zg 18 16 false (.ld 10 17),zg 19 16 false (.bin .eql 18 (zi 5)),zP 20 16 (.k (.bool true)) 19,zm 21 20,zg 22 21 false (.fad 40 0 10 7),zg 23 21 false (.ld 10 22),zg 24 21 false (.bin .eql 23 (zi 6)),zP 25 21 (.k (.bool true)) 24]
def Kx:C:=zR [6] [zm 6 (zi 31)]
def JT:C:=zR [3,7,29] [zF 26 40 2 10 7,zL 27 10 26,zm 28 1,zB 29 .neq 27 28]
def Qx:C:=zR [6] [zm 6 (zi 30)]
def Kr:C:=zR [3,7,34] [zF 30 40 3 10 7,zL 31 10 30,zF 32 42 1 10 3,zL 33 10 32,zB 34 .neq 31 33]
def Js:C:=zR [6] [zm 6 (zi 33)]
def LV:C:=zR [3,7,37] [zF 35 42 0 10 3,zL 36 10 35,zB 37 .eql 36 (zi 0)]
def JM:C:=zR [6] [zm 6 (zi 30)]
def C8:C:=zR [42] [zF 38 40 0 10 7,zL 39 10 38,zF 40 42 0 10 3,zL 41 10 40,zB 42 .neq 39 41]
def EK:C:=zR [6] [zm 6 (zi 31)]
def Dq:C:=zR [6] [zm 6 (zi 0)]
@[go_sem] def gF:Fc:=⟨3,.seq Jj (.seq M0 (.seq (.seq Mu (.cond (.t 25) (.seq Kx (.ret)) (.skip))) (.seq (.seq JT (.cond (.t 29) (.seq Qx (.ret)) (.skip))) (.seq (.seq Kr (.cond (.t 34) (.seq Js (.ret)) (.skip))) (.seq (.seq LV (.cond (.t 37) (.seq JM (.ret)) (.skip))) (.seq (.seq C8 (.cond (.t 42) (.seq EK (.ret)) (.skip))) (.seq Dq (.ret)))))))),[.t 6]⟩
def Nt:C:=zR [1] [zq 1 (.box false 0),zm 2 (.k (.bool false))]
def Rj:C:=zR [2] [zF 3 42 0 10 1,zL 4 10 3,zB 5 .eql 4 (zi 0),zm 6 5,zg 7 6 true (.fad 42 1 10 1),zg 8 6 true (.ld 10 7),zg 9 6 true (.bin .lss 8 (zi 16777215)),zP 10 6 9 (.k (.bool false)),zm 2 10]
@[go_sem] def mP:Fc:=⟨1,.seq Nt (.seq Rj (.ret)),[.t 2]⟩
def HL:C:=zR [1] [zq 1 (.box false 0),zm 2 (.k (.bool false))]
def Pa:C:=zR [2] [zF 3 42 0 10 1,zL 4 10 3,zB 5 .eql 4 (zi 0),zm 6 5,zg 7 6 true (.fad 42 1 10 1),zg 8 6 true (.ld 10 7),zg 9 6 true (.bin .lss 8 (zi 16777215)),zP 10 6 9 (.k (.bool false)),zm 2 10]
@[go_sem] def ig:Fc:=⟨1,.seq HL (.seq Pa (.ret)),[.t 2]⟩
def Jf:C:=zR [0,2,3] [zq 2 (.alloc false (.agg 48 (List.replicate 49 (.agg 42 [(.int .i64 0),(.int .i64 0),(.int .i64 0)])))),zq 3 (.alloc false (.agg 50 (List.replicate 8 (.int .i64 0))))]
def RX:C:=zD [2,3] [zm 4 0,zN 5 4,zF 6 43 3 48 5,zL 7 48 6,zm 8 0,zN 9 8,zF 10 43 4 50 9,zq 11 (.lda 50 10 0),zw (.sta 48 2 7 [0]),zS 50 3 11]
@[go_sem] def iB:Fc:=⟨1,.seq Jf (.seq RX (.ret)),[.cell 2 48,.cell 3 50]⟩
def Rw:C:=zR [0,2] [zq 2 (.alloc false (.agg 48 (List.replicate 49 (.agg 42 [(.int .i64 0),(.int .i64 0),(.int .i64 0)])))),zm 3 (.k (.bool false))]
def I8:C:=zR [0,2,8] [zm 4 0,zN 5 4,zF 6 43 6 0 5,zL 7 0 6,zq 8 (.un .not 7)]
def Jy:C:=zR [2,3] [zL 9 48 2,zS 48 2 9,zm 3 (.k (.bool false))]
def Na:C:=zR [2,3] [zm 10 0,zN 11 10,zF 12 43 5 48 11,zL 13 48 12,zS 48 2 13,zm 3 (.k (.bool true))]
@[go_sem] def gA:Fc:=⟨1,.seq Rw (.seq (.seq I8 (.cond (.t 8) (.seq Jy (.ret)) (.skip))) (.seq Na (.ret))),[.cell 2 48,.t 3]⟩
def Jl:C:=zR [0] [zm 2 (zi 0)]
def Re:C:=zR [2] [zm 3 0,zN 4 3,zF 5 43 1 1 4,zL 6 1 5,zC 7 (zf bq) [6],zm 2 7]
@[go_sem] def iz:Fc:=⟨1,.seq Jl (.seq Re (.ret)),[.t 2]⟩
def Ii:C:=zR [0] [zm 2 (zi 0)]
def Sb:C:=zR [0,3] [zm 3 (zi 0)]
def IK:C:=zR [0,3,4] [zm 4 (zi 0)]
def LE:C:=zR [0,3,4,11] [zm 5 4,zm 6 0,zN 7 6,zF 8 21 1 1 7,zL 9 1 8,zq 10 (.len false 9),zB 11 .lss 5 10]
def MO:C:=zR [0,3,4,21] [zm 14 0,zN 15 14,zF 16 21 1 1 15,zL 17 1 16,zm 18 4,zq 19 (.sad 10 17 18),zL 20 10 19,zB 21 .eql 20 (zi 0)]
def PX:C:=zR [0,3,4] [zm 22 3,zB 23 .add 22 (zi 1),zm 3 23]
def QO:C:=zR [0,3,4] [zm 12 4,zB 13 .add 12 (zi 1),zm 4 13]
def Lm:C:=zR [2] [zm 24 3,zm 2 24]
def bO:C:=.seq (.seq LE (.cond (.t 11) (.skip) (.exit 0))) (.seq (.block 1 (.seq MO (.cond (.t 21) PX (.skip)))) QO)
@[go_sem] def eH:Fc:=⟨1,.seq Ii (.seq Sb (.seq (.seq IK (.block 0 (.loop [0,3,4] bO))) (.seq Lm (.ret)))),[.t 2]⟩
def HZ:C:=zR [0,1] [zm 4 (.k .nilp)]
def Lq:C:=zR [0,1,15] [zm 5 1,zB 6 .lss 5 (zi 0),zm 7 6,zg 8 7 false (.mv 1),zg 9 7 false (.mv 0),zg 10 7 false (.nilc 9),zg 11 7 false (.fad 59 0 1 10),zg 12 7 false (.ld 1 11),zg 13 7 false (.len false 12),zg 14 7 false (.bin .geq 8 13),zP 15 7 (.k (.bool true)) 14]
def RI:C:=zR [4] [zm 4 (.k .nilp)]
def Oe:C:=zR [4] [zm 16 0,zN 17 16,zF 18 59 0 1 17,zL 19 1 18,zm 20 1,zq 21 (.sad 55 19 20),zm 4 21]
@[go_sem] def kq:Fc:=⟨2,.seq HZ (.seq (.seq Lq (.cond (.t 15) (.seq RI (.ret)) (.skip))) (.seq Oe (.ret))),[.t 4]⟩
def Pg:C:=zR [0,1] [zm 4 (.k (.bool false))]
def OT:C:=zR [4] [zm 5 1,zB 6 .geq 5 (zi 0),zm 7 6,zg 8 7 true (.mv 1),zg 9 7 true (.mv 0),zg 10 7 true (.nilc 9),zg 11 7 true (.fad 33 0 1 10),zg 12 7 true (.ld 1 11),zg 13 7 true (.len false 12),zg 14 7 true (.bin .lss 8 13),zP 15 7 14 (.k (.bool false)),zm 4 15]
@[go_sem] def fB:Fc:=⟨2,.seq Pg (.seq OT (.ret)),[.t 4]⟩
def QZ:C:=zR [0,1,2,6] [zq 6 (.alloc false (.agg 24 (List.replicate 8 (.int .u64 0))))]
def Ig:C:=zR [0,1,2,6,7] [zm 9 0,zN 10 9,zF 11 33 0 1 10,zL 12 1 11,zm 13 1,zq 14 (.sad 24 12 13),zL 15 24 14,zq 7 (.alloc false (.agg 24 (List.replicate 8 (.int .u64 0)))),zS 24 7 15]
def Lf:C:=zR [0,1,2,6,7,8] [zm 8 (zi 0)]
def Qc:C:=zR [0,1,2,6,7,8,18] [zm 16 8,zm 17 2,zB 18 .lss 16 17]
def Oz:C:=zD [0,1,2,6,7,8] [zm 21 0,zN 22 21,zF 23 33 1 1 22,zL 24 1 23,zm 25 1,zq 26 (.sad 1 24 25),zL 27 1 26,zm 28 8,zq 29 (.sad 90 27 28),zF 30 90 0 10 29,zL 31 10 30,zm 32 0,zN 33 32,zF 34 33 1 1 33,zL 35 1 34,zm 36 1,zq 37 (.sad 1 35 36),zL 38 1 37,zm 39 8,zq 40 (.sad 90 38 39),zF 41 90 1 18 40,zL 42 18 41,zq 43 (.iad 24 8 18 7 31),zS 18 43 42]
def QN:C:=zR [0,1,2,6,7,8] [zm 19 8,zB 20 .add 19 (zi 1),zm 8 20]
def Ox:C:=zR [6] [zL 44 24 7,zS 24 6 44]
def cL:C:=.seq (.seq Qc (.cond (.t 18) (.skip) (.exit 0))) (.seq (.block 1 Oz) QN)
@[go_sem] def eT:Fc:=⟨3,.seq QZ (.seq Ig (.seq (.seq Lf (.block 0 (.loop [0,1,2,6,7,8] cL))) (.seq Ox (.ret)))),[.cell 6 24]⟩
def Hx:C:=zD [] [zm 4 0,zm 5 1,zB 6 .quo 5 (zi 64),zN 7 4,zq 8 (.iad 78 16 18 7 6),zL 9 18 8,zm 10 1,zB 11 .rem 10 (zi 64),zB 12 .shl (.k (.int .u64 1)) 11,zB 13 .xor 9 12,zN 14 4,zq 15 (.iad 78 16 18 14 6),zS 18 15 13]
@[go_sem] def jM:Fc:=⟨2,Hx,[]⟩
def IM:C:=zR [0,1,2] [zm 6 (zi 0)]
def RC:C:=zR [2,9] [zm 7 0,zm 8 1,zC 9 (zf ca) [7,8]]
def JD:C:=zR [2,9,10] [zB 11 .eql 9 (zi (-1)),zm 10 11]
def KD:C:=zR [6] [zm 6 (zi 1)]
def PJ:C:=zR [12] [zm 13 2,zB 14 .eql 9 13,zm 12 14]
def MV:C:=zR [6] [zm 6 (zi 0)]
def NA:C:=zR [6] [zm 6 (zi 3)]
@[go_sem] def jw:Fc:=⟨3,.seq IM (.seq (.seq RC (.block 0 (.seq JD (.cond (.t 10) (.seq KD (.ret)) (.seq PJ (.cond (.t 12) (.seq MV (.ret)) (.skip))))))) (.seq NA (.ret))),[.t 6]⟩
def Pe:C:=zR [0,3] [zq 3 (.box false 1)]
def Ie:C:=zR [0,6,7] [zL 6 48 3,zm 7 (zi 0)]
def JX:C:=zR [0,6,7,8] [zB 8 .lss 7 (zi 49)]
def IG:C:=zR [0,5,6,7] [zq 9 (.idx 48 49 6 7),zq 5 (.alloc false (.agg 42 [(.int .i64 0),(.int .i64 0),(.int .i64 0)])),zS 42 5 9]
def P1:C:=zR [0,5,6,7,12] [zF 10 42 0 10 5,zL 11 10 10,zB 12 .neq 11 (zi 0)]
def Ln:C:=zD [0,6,7] [zm 13 0,zF 14 42 2 10 5,zL 15 10 14,zN 16 13,zq 17 (.iad 82 1024 0 16 15),zS 0 17 (.k (.bool true))]
def OS:C:=zR [0,6,7] [zB 18 .add 7 (zi 1),zm 7 18]
def bh:C:=.seq JX (.seq (.cond (.t 8) (.skip) (.exit 0)) (.seq (.block 1 (.seq IG (.seq P1 (.cond (.t 12) Ln (.skip))))) OS))
@[go_sem] def jf:Fc:=⟨2,.seq Pe (.seq Ie (.block 0 (.loop [0,6,7] bh))),[]⟩
def Ol:C:=zR [0,1,2,3] [zm 8 (zi 0)]
def Of:C:=zR [0,1,2,3,9] [zm 10 0,zm 11 1,zC 12 (zf cJ) [10,11],zm 9 12]
def IL:C:=zR [0,1,2,3,9,14] [zm 13 9,zB 14 .lss 13 (zi 0)]
def Ov:C:=zR [8] [zm 8 (zi 1)]
def JE:C:=zR [0,1,3,17] [zm 15 9,zm 16 2,zB 17 .neq 15 16]
def NI:C:=zR [8] [zm 8 (zi 3)]
def MF:C:=zD [] [zm 18 0,zN 19 18,zF 20 21 1 1 19,zL 21 1 20,zm 22 1,zm 23 0,zN 24 23,zF 25 21 0 10 24,zL 26 10 25,zB 27 .sub 22 26,zm 28 3,zq 29 (.sad 10 21 27),zS 10 29 28]
def RO:C:=zR [8] [zm 8 (zi 0)]
@[go_sem] def eB:Fc:=⟨4,.seq Ol (.seq Of (.seq (.seq IL (.cond (.t 14) (.seq Ov (.ret)) (.skip))) (.seq (.seq JE (.cond (.t 17) (.seq NI (.ret)) (.skip))) (.seq MF (.seq RO (.ret)))))),[.t 8]⟩
def Mf:C:=zR [0] [zm 2 (zi 0)]
def NE:C:=zR [0,4] [zm 3 0,zB 4 .eql 3 (.k (.int .u64 0))]
def Lu:C:=zR [2] [zm 2 (zi 64)]
def Ql:C:=zR [2] [zm 5 0,zm 6 0,zq 7 (.un .neg 6),zB 8 .and 5 7,zB 9 .mul 8 (.k (.int .u64 285870213051353865)),zB 10 .shr 9 (.k (.int .u64 58)),zq 11 (.iad 108 64 12 (.k xF) 10),zL 12 12 11,zq 13 (.conv .i64 12),zm 2 13]
@[go_sem] def eV:Fc:=⟨1,.seq Mf (.seq (.seq NE (.cond (.t 4) (.seq Lu (.ret)) (.skip))) (.seq Ql (.ret))),[.t 2]⟩
def PN:C:=zR [0] [zm 2 (zi 0)]
def MY:C:=zR [0,13] [zm 3 0,zN 4 3,zF 5 59 2 0 4,zL 6 0 5,zm 7 6,zg 8 7 true (.mv 0),zg 9 7 true (.nilc 8),zg 10 7 true (.fad 59 3 10 9),zg 11 7 true (.ld 10 10),zg 12 7 true (.bin .eql 11 (zi 0)),zP 13 7 12 (.k (.bool false))]
def HR:C:=zR [0] [zm 14 0,zN 15 14,zF 16 59 1 0 15,zS 0 16 (.k (.bool true))]
def Nf:C:=zR [0,20] [zm 17 0,zN 18 17,zF 19 59 1 0 18,zL 20 0 19]
def Jg:C:=zR [2] [zm 2 (zi 4)]
def K4:C:=zR [0,24] [zm 21 0,zN 22 21,zF 23 59 2 0 22,zL 24 0 23]
def ND:C:=zR [0] [zm 25 0,zN 26 25,zF 27 59 3 10 26,zL 28 10 27,zB 29 .sub 28 (zi 1),zN 30 25,zF 31 59 3 10 30,zS 10 31 29]
def Ku:C:=zR [] [zm 32 0,zN 33 32,zF 34 59 4 10 33,zL 35 10 34,zB 36 .add 35 (zi 1),zN 37 32,zF 38 59 4 10 37,zS 10 38 36]
def ON:C:=zR [2] [zm 2 (zi 0)]
@[go_sem] def jS:Fc:=⟨1,.seq PN (.seq (.seq MY (.cond (.t 13) HR (.skip))) (.seq (.seq Nf (.cond (.t 20) (.seq Jg (.ret)) (.skip))) (.seq (.seq K4 (.cond (.t 24) ND (.skip))) (.seq Ku (.seq ON (.ret)))))),[.t 2]⟩
def RU:C:=zR [0] [zm 2 (zi 0)]
def PB:C:=zR [0] [zm 3 0,zB 4 .shr 3 (.k (.int .u64 1)),zB 5 .and 4 (.k (.int .u64 6148914691236517205)),zm 6 0,zB 7 .and 6 (.k (.int .u64 6148914691236517205)),zB 8 .add 5 7,zm 0 8]
def Px:C:=zR [0] [zm 9 0,zB 10 .shr 9 (.k (.int .u64 2)),zB 11 .and 10 (.k (.int .u64 3689348814741910323)),zm 12 0,zB 13 .and 12 (.k (.int .u64 3689348814741910323)),zB 14 .add 11 13,zm 0 14]
def M5:C:=zR [0] [zm 15 0,zB 16 .shr 15 (.k (.int .u64 4)),zm 17 0,zB 18 .add 16 17,zB 19 .and 18 (.k (.int .u64 1085102592571150095)),zm 0 19]
def Pz:C:=zR [0] [zm 20 0,zm 21 0,zB 22 .shr 21 (.k (.int .u64 8)),zB 23 .add 20 22,zm 0 23]
def IF:C:=zR [0] [zm 24 0,zm 25 0,zB 26 .shr 25 (.k (.int .u64 16)),zB 27 .add 24 26,zm 0 27]
def Li:C:=zR [0] [zm 28 0,zm 29 0,zB 30 .shr 29 (.k (.int .u64 32)),zB 31 .add 28 30,zm 0 31]
def Rl:C:=zR [2] [zm 32 0,zq 33 (.conv .i64 32),zB 34 .and 33 (zi 127),zm 2 34]
@[go_sem] def gi:Fc:=⟨1,.seq RU (.seq PB (.seq Px (.seq M5 (.seq Pz (.seq IF (.seq Li (.seq Rl (.ret)))))))),[.t 2]⟩
def Kh:C:=zR [0,1] [zm 4 (.k (.bool false))]
def LJ:C:=zR [0,5] [zm 6 0,zm 7 1,zN 8 6,zF 9 31 2 48 8,zq 10 (.iad 48 49 42 9 7),zF 11 42 2 10 10,zL 12 10 11,zm 5 12]
def Nb:C:=zR [4] [zm 13 0,zN 14 13,zF 15 31 3 48 14,zL 16 48 15,zC 17 (zf aK) [16],zm 18 5,zC 19 (zf bc) [17,18],zq 20 (.un .not 19),zm 21 20,zg 22 21 true (.mv 0),zg 23 21 true (.nilc 22),zg 24 21 true (.fad 31 6 0 23),zg 25 21 true (.ld 0 24),zg 26 21 true (.mv 25),zg 27 26 true (.mv 0),zg 28 26 true (.nilc 27),zg 29 26 true (.fad 31 5 48 28),zg 30 26 true (.ld 48 29),zg 31 26 true (.call (zf aK) [30]),zg 32 26 true (.mv 5),zg 33 26 true (.call (zf bc) [31,32]),zg 34 21 true (.pick 26 33 (.k (.bool false))),zg 35 21 true (.un .not 34),zP 36 21 35 (.k (.bool false)),zm 4 36]
@[go_sem] def ft:Fc:=⟨2,.seq Kh (.seq LJ (.seq Nb (.ret))),[.t 4]⟩
def R0:C:=zR [0,1,2,3] [zm 8 (zi 0)]
def Q2:C:=zR [0,1,2,3,21] [zm 10 0,zm 11 1,zC 12 (zf bH) [10,11],zq 13 (.un .not 12),zm 14 13,zg 15 14 false (.mv 2),zg 16 14 false (.bin .lss 15 (zi 0)),zP 17 14 (.k (.bool true)) 16,zm 18 17,zg 19 18 false (.mv 2),zg 20 18 false (.bin .gtr 19 (zi 7)),zP 21 18 (.k (.bool true)) 20]
def QT:C:=zR [8] [zm 8 (zi 1)]
def Ki:C:=zR [0,1,2,3,9] [zm 22 0,zC 23 (zf db) [22],zm 9 23]
def N2:C:=zR [0,1,2,3,9,25] [zm 24 9,zB 25 .eql 24 (zi 0)]
def I5:C:=zD [9] [zm 26 0,zN 27 26,zF 28 33 1 1 27,zq 29 (.lda 1 28 0),zm 30 1,zq 31 (.bsl true 92 90 (.agg 90 [(.int .i64 0),(.int .u64 0),(.agg 88 (List.replicate 8 (.bool false)))]) 0 []),zm 32 0,zN 33 32,zF 34 33 1 1 33,zL 35 1 34,zm 36 1,zq 37 (.sad 1 35 36),zL 38 1 37,zq 39 (.appa true 92 90 31 38 [0]),zm 40 2,zm 41 3,zq 42 (.bld (.agg 90 [(.int .i64 0),(.int .u64 0),(.agg 88 (List.replicate 8 (.bool false)))]) [(0,40),(1,41)]),zq 43 (.bsl false 92 90 (.agg 90 [(.int .i64 0),(.int .u64 0),(.agg 88 (List.replicate 8 (.bool false)))]) 1 [(0,42)]),zq 44 (.appa true 92 90 39 43 [0]),zq 45 (.sad 1 29 30),zS 1 45 44]
def PW:C:=zR [8] [zm 46 9,zm 8 46]
@[go_sem] def d8:Fc:=⟨4,.seq R0 (.seq (.seq Q2 (.cond (.t 21) (.seq QT (.ret)) (.skip))) (.seq Ki (.seq (.seq N2 (.cond (.t 25) I5 (.skip))) (.seq PW (.ret))))),[.t 8]⟩
def R9:C:=zR [0,3] [zq 3 (.box false 1),zm 4 (zi 0),zm 5 (zi 0)]
def LH:C:=zR [0,3,6,7] [zm 10 0,zN 11 10,zF 12 31 1 1 11,zL 13 1 12,zC 14 (zf aU) [13],zm 9 14,zE 15 9 0,zE 16 9 1,zm 6 15,zm 7 16]
def Kw:C:=zR [0,3,6,7,18] [zm 17 7,zB 18 .neq 17 (zi 0)]
def Oj:C:=zR [4,5] [zm 19 7,zm 4 (zi 0),zm 5 19]
def PA:C:=zR [0,3,6,8] [zm 8 (zi 0)]
def RF:C:=zR [0,3,6,8,21] [zm 20 8,zB 21 .lss 20 (zi 8)]
def P2:C:=zD [0,3,6,7,8] [zm 24 0,zN 25 24,zF 26 31 0 1 25,zL 27 1 26,zm 28 6,zm 29 8,zm 30 8,zq 31 (.iad 24 8 18 3 30),zL 32 18 31,zC 33 (zf bn) [27,28,29,32],zm 7 33]
def La:C:=zR [0,3,6,7,8,35] [zm 34 7,zB 35 .neq 34 (zi 0)]
def Nx:C:=zR [4,5] [zm 36 7,zm 4 (zi 0),zm 5 36]
def K8:C:=zR [0,3,6,8] [zm 22 8,zB 23 .add 22 (zi 1),zm 8 23]
def Fk:C:=zR [4,5] [zm 37 6,zm 4 37,zm 5 (zi 0)]
def bZ:C:=.seq (.seq RF (.cond (.t 21) (.skip) (.exit 0))) (.seq (.block 1 (.seq P2 (.seq La (.cond (.t 35) (.seq Nx (.ret)) (.skip))))) K8)
@[go_sem] def ff:Fc:=⟨2,.seq R9 (.seq LH (.seq (.seq Kw (.cond (.t 18) (.seq Oj (.ret)) (.skip))) (.seq (.seq PA (.block 0 (.loop [0,3,6,8] bZ))) (.seq Fk (.ret))))),[.t 4,.t 5]⟩
def RM:C:=zR [0,1] [zm 4 (zi 0)]
def Oy:C:=zR [0,1,5] [zm 6 0,zm 7 1,zC 8 (zf cg) [6,7,(zi 1)],zm 5 8]
def Mj:C:=zR [0,1,5,10] [zm 9 5,zB 10 .eql 9 (zi 0)]
def KX:C:=zR [5] [zm 11 0,zN 12 11,zF 13 80 2 78 12,zm 14 1,zC 15 (zf aY) [13,14]]
def Kq:C:=zR [4] [zm 16 5,zm 4 16]
@[go_sem] def iV:Fc:=⟨2,.seq RM (.seq Oy (.seq (.seq Mj (.cond (.t 10) KX (.skip))) (.seq Kq (.ret)))),[.t 4]⟩
def K1:C:=zR [1,2] [zq 1 (.box false 0),zq 2 (.alloc false (.agg 42 [(.int .i64 0),(.int .i64 0),(.int .i64 0)])),zm 3 (zi 0)]
def Sa:C:=zR [1,2,6] [zF 4 42 0 10 1,zL 5 10 4,zB 6 .eql 5 (zi 0)]
def J8:C:=zR [2,3] [zq 7 (.bld (.agg 42 [(.int .i64 0),(.int .i64 0),(.int .i64 0)]) []),zS 42 2 7,zm 3 (zi 30)]
def Jz:C:=zR [2,3] [zF 8 42 1 10 1,zL 9 10 8,zF 10 42 1 10 1,zL 11 10 10,zB 12 .sub (zi 16777215) 11,zq 13 (.mnx false (zi 1) 12),zB 14 .add 9 13,zq 15 (.bld (.agg 42 [(.int .i64 0),(.int .i64 0),(.int .i64 0)]) [(1,14)]),zS 42 2 15,zm 3 (zi 0)]
@[go_sem] def nR:Fc:=⟨1,.seq K1 (.seq (.seq Sa (.cond (.t 6) (.seq J8 (.ret)) (.skip))) (.seq Jz (.ret))),[.cell 2 42,.t 3]⟩
def Rd:C:=zR [0,1] [zm 4 (zi 0)]
def It:C:=zR [4] [zm 5 0,zm 6 1,zC 7 (zf aN) [5,6,(zi 1),(zi 0)],zm 4 7]
@[go_sem] def eu:Fc:=⟨2,.seq Rd (.seq It (.ret)),[.t 4]⟩
def MZ:C:=zR [1,2] [zq 1 (.box false 0),zq 2 (.alloc false (.agg 42 [(.int .i64 0),(.int .i64 0),(.int .i64 0)])),zm 3 (zi 0)]
def Mq:C:=zR [1,2,7] [zF 5 42 0 10 1,zL 6 10 5,zB 7 .eql 6 (zi 0)]
def Qp:C:=zR [2,3] [zq 8 (.bld (.agg 42 [(.int .i64 0),(.int .i64 0),(.int .i64 0)]) []),zS 42 2 8,zm 3 (zi 30)]
def NB:C:=zR [2,4] [zF 9 42 1 10 1,zL 10 10 9,zm 4 10]
def HX:C:=zR [2,4,12] [zm 11 4,zB 12 .neq 11 (zi 16777215)]
def Qy:C:=zR [2,4] [zm 13 4,zB 14 .add 13 (zi 1),zm 4 14]
def Qo:C:=zR [2,3] [zm 15 4,zq 16 (.bld (.agg 42 [(.int .i64 0),(.int .i64 0),(.int .i64 0)]) [(1,15)]),zS 42 2 16,zm 3 (zi 0)]
@[go_sem] def iR:Fc:=⟨1,.seq MZ (.seq (.seq Mq (.cond (.t 7) (.seq Qp (.ret)) (.skip))) (.seq NB (.seq (.seq HX (.cond (.t 12) Qy (.skip))) (.seq Qo (.ret))))),[.cell 2 42,.t 3]⟩
def OY:C:=zR [0] [zm 6 0,zN 7 6,zF 8 43 6 0 7,zS 0 8 (.k (.bool false))]
def Qi:C:=zR [0] [zm 9 0,zC 10 (zf bB) [9]]
def Im:C:=zR [0,2] [zm 11 0,zN 12 11,zF 13 43 7 82 12,zL 14 82 13,zq 2 (.alloc false (.agg 82 (List.replicate 1024 (.bool false)))),zS 82 2 14]
def NP:C:=zR [0,2] [zm 15 0,zN 16 15,zF 17 43 2 48 16,zL 18 48 17,zC 19 (zf bv) [2,18]]
def Ks:C:=zR [0,2,23,24] [zm 20 0,zN 21 20,zF 22 43 4 50 21,zL 23 50 22,zm 24 (zi 0)]
def JJ:C:=zR [0,2,23,24,25] [zB 25 .lss 24 (zi 8)]
def IZ:C:=zR [0,2,4,23,24] [zq 26 (.idx 50 8 23 24),zm 4 26]
def Mw:C:=zR [0,2,4,23,24,32] [zm 27 4,zB 28 .geq 27 (zi 0),zm 29 28,zg 30 29 true (.mv 4),zg 31 29 true (.bin .lss 30 (zi 1024)),zP 32 29 31 (.k (.bool false))]
def KM:C:=zR [0,2,23,24] [zm 33 4,zq 34 (.iad 82 1024 0 2 33),zS 0 34 (.k (.bool true))]
def PQ:C:=zR [0,2,23,24] [zB 35 .add 24 (zi 1),zm 24 35]
def Cf:C:=zR [0,2,40,41] [zm 36 0,zN 37 36,zF 38 43 0 1 37,zL 39 1 38,zC 40 (zf cj) [39],zm 41 (zi 0)]
def Db:C:=zR [0,2,40,41,42] [zB 42 .lss 41 40]
def Dg:C:=zR [0,2,5,40,41] [zm 43 41,zm 5 43]
def CD:C:=zR [0,2,5,40,41,56] [zm 44 5,zq 45 (.iad 82 1024 0 2 44),zL 46 0 45,zq 47 (.un .not 46),zm 48 47,zg 49 48 true (.mv 0),zg 50 48 true (.nilc 49),zg 51 48 true (.fad 43 1 1 50),zg 52 48 true (.ld 1 51),zg 53 48 true (.mv 5),zg 54 48 true (.call (zf ca) [52,53]),zg 55 48 true (.bin .eql 54 (zi 1)),zP 56 48 55 (.k (.bool false))]
def Eu:C:=zR [0,2,40,41] [zm 57 0,zN 58 57,zF 59 43 1 1 58,zL 60 1 59,zm 61 5,zC 62 (zf cH) [60,61]]
def DH:C:=zR [0,2,40,41] [zB 63 .add 41 (zi 1),zm 41 63]
def E0:C:=zR [] [zm 64 0,zN 65 64,zF 66 43 1 1 65,zL 67 1 66,zC 68 (zf dI) [67]]
def cd:C:=.seq JJ (.seq (.cond (.t 25) (.skip) (.exit 0)) (.seq (.block 1 (.seq IZ (.seq Mw (.cond (.t 32) KM (.skip))))) PQ))
def bY:C:=.seq Db (.seq (.cond (.t 42) (.skip) (.exit 2)) (.seq (.block 3 (.seq Dg (.seq CD (.cond (.t 56) Eu (.skip))))) DH))
@[go_sem] def gD:Fc:=⟨1,.seq OY (.seq Qi (.seq Im (.seq NP (.seq (.seq Ks (.block 0 (.loop [0,2,23,24] cd))) (.seq (.seq Cf (.block 2 (.loop [0,2,40,41] bY))) E0))))),[]⟩
def Rz:C:=zD [0,2] [zm 4 0,zN 5 4,zF 6 31 3 48 5,zL 7 48 6,zq 8 (.callk true (zf aK) [7]),zm 9 0,zN 10 9,zF 11 31 2 48 10,zL 12 48 11,zq 13 (.callk true (zf aK) [12]),zq 14 (.app false 38 10 8 13),zm 15 0,zN 16 15,zF 17 31 4 50 16,zq 18 (.slarr 50 8 10 17 none none none),zq 19 (.app false 38 10 14 18),zm 2 19]
def Nj:C:=zR [0,2,3] [zm 3 (zi 0)]
def Q7:C:=zR [0,2,3,29] [zm 20 3,zm 21 0,zN 22 21,zF 23 31 1 1 22,zL 24 1 23,zN 25 24,zF 26 21 1 1 25,zL 27 1 26,zq 28 (.len false 27),zB 29 .lss 20 28]
def RH:C:=zR [0,2,3,43] [zm 32 2,zm 33 0,zN 34 33,zF 35 31 1 1 34,zL 36 1 35,zN 37 36,zF 38 21 0 10 37,zL 39 10 38,zm 40 3,zB 41 .add 39 40,zC 42 (zf bc) [32,41],zq 43 (.un .not 42)]
def Lx:C:=zD [0,2,3] [zm 44 0,zN 45 44,zF 46 31 1 1 45,zL 47 1 46,zm 48 0,zN 49 48,zF 50 31 1 1 49,zL 51 1 50,zN 52 51,zF 53 21 0 10 52,zL 54 10 53,zm 55 3,zB 56 .add 54 55,zC 57 (zf bd) [47,56]]
def IH:C:=zR [0,2,3] [zm 30 3,zB 31 .add 30 (zi 1),zm 3 31]
def bT:C:=.seq (.seq Q7 (.cond (.t 29) (.skip) (.exit 0))) (.seq (.block 1 (.seq RH (.cond (.t 43) Lx (.skip)))) IH)
@[go_sem] def eU:Fc:=⟨1,.seq Rz (.seq Nj (.block 0 (.loop [0,2,3] bT))),[]⟩
def I2:C:=zR [0,1] [zm 4 (.k (.bool false))]
def MJ:C:=zR [0,1,5] [zm 5 (zi 0)]
def Pd:C:=zR [0,1,5,9] [zm 6 5,zm 7 0,zq 8 (.len false 7),zB 9 .lss 6 8]
def JK:C:=zR [0,1,5,17] [zm 12 0,zm 13 5,zq 14 (.sad 10 12 13),zL 15 10 14,zm 16 1,zB 17 .eql 15 16]
def KY:C:=zR [4] [zm 4 (.k (.bool true))]
def Ly:C:=zR [0,1,5] [zm 10 5,zB 11 .add 10 (zi 1),zm 5 11]
def N0:C:=zR [4] [zm 4 (.k (.bool false))]
def dT:C:=.seq (.seq Pd (.cond (.t 9) (.skip) (.exit 0))) (.seq (.block 1 (.seq JK (.cond (.t 17) (.seq KY (.ret)) (.skip)))) Ly)
@[go_sem] def ja:Fc:=⟨2,.seq I2 (.seq (.seq MJ (.block 0 (.loop [0,1,5] dT))) (.seq N0 (.ret))),[.t 4]⟩
def QG:C:=zR [1] [zq 1 (.box false 0),zm 2 (.k (.bool false))]
def RT:C:=zR [1,3] [zF 4 40 0 10 1,zL 5 10 4,zB 6 .eql 5 (zi 5),zm 7 6,zg 8 7 false (.fad 40 0 10 1),zg 9 7 false (.ld 10 8),zg 10 7 false (.bin .eql 9 (zi 6)),zP 11 7 (.k (.bool true)) 10,zm 3 11]
def Rb:C:=zR [2] [zF 12 40 0 10 1,zL 13 10 12,zC 14 (zf bV) [13,(zi 1),(zi 6)],zm 15 14,zg 16 15 true (.fad 40 1 10 1),zg 17 15 true (.ld 10 16),zg 18 15 true (.call (zf bV) [17,(zi 0),(zi 15)]),zP 19 15 18 (.k (.bool false)),zm 20 19,zg 21 20 true (.fad 40 2 10 1),zg 22 20 true (.ld 10 21),zg 23 20 true (.call (zf bV) [22,(zi 0),(zi 48)]),zP 24 20 23 (.k (.bool false)),zm 25 24,zg 26 25 true (.fad 40 3 10 1),zg 27 25 true (.ld 10 26),zg 28 25 true (.call (zf bV) [27,(zi 0),(zi 16777215)]),zP 29 25 28 (.k (.bool false)),zm 30 29,zg 31 30 true (.fad 40 4 10 1),zg 32 30 true (.ld 10 31),zg 33 30 true (.call (zf bV) [32,(zi 0),(zi 65535)]),zP 34 30 33 (.k (.bool false)),zm 35 34,zg 36 35 true (.mv 3),zg 37 35 true (.un .not 36),zg 38 35 true (.mv 37),zg 39 38 false (.fad 40 2 10 1),zg 40 38 false (.ld 10 39),zg 41 38 false (.bin .eql 40 (zi 0)),zg 42 38 false (.mv 41),zg 43 42 true (.fad 40 3 10 1),zg 44 42 true (.ld 10 43),zg 45 42 true (.bin .eql 44 (zi 0)),zg 46 38 false (.pick 42 45 (.k (.bool false))),zg 47 35 true (.pick 38 (.k (.bool true)) 46),zP 48 35 47 (.k (.bool false)),zm 2 48]
@[go_sem] def oE:Fc:=⟨1,.seq QG (.seq RT (.seq Rb (.ret))),[.t 2]⟩
def Ld:C:=zR [0,1,2] [zm 6 (.k (.int .u64 0))]
def HY:C:=zR [0,1,2,7] [zm 7 (.k (.int .u64 0))]
def MI:C:=zR [0,1,2,7,12] [zm 9 1,zm 10 2,zC 11 (zf dB) [9,10],zq 12 (.un .not 11)]
def QV:C:=zR [6] [zm 6 (.k (.int .u64 0))]
def IN:C:=zR [0,1,2,7,8] [zm 8 (zi 0)]
def LU:C:=zR [0,1,2,7,8,15] [zm 13 8,zm 14 2,zB 15 .lss 13 14]
def Oo:C:=zR [0,1,2,7,8] [zm 18 7,zm 19 0,zm 20 1,zm 21 8,zB 22 .add 20 21,zC 23 (zf be) [19,22],zm 24 8,zB 25 .shl 23 24,zB 26 .or 18 25,zm 7 26]
def Lk:C:=zR [0,1,2,7,8] [zm 16 8,zB 17 .add 16 (zi 1),zm 8 17]
def OL:C:=zR [6] [zm 27 7,zm 6 27]
def dY:C:=.seq (.seq LU (.cond (.t 15) (.skip) (.exit 0))) (.seq (.block 1 Oo) Lk)
@[go_sem] def gI:Fc:=⟨3,.seq Ld (.seq HY (.seq (.seq MI (.cond (.t 12) (.seq QV (.ret)) (.skip))) (.seq (.seq IN (.block 0 (.loop [0,1,2,7,8] dY))) (.seq OL (.ret))))),[.t 6]⟩
def NK:C:=zR [1] [zq 1 (.box false 0),zm 2 (.k (.int .u64 0)),zm 3 (zi 0)]
def Ko:C:=zR [1,53] [zF 6 40 0 10 1,zL 7 10 6,zB 8 .lss 7 (zi 1),zm 9 8,zg 10 9 false (.fad 40 0 10 1),zg 11 9 false (.ld 10 10),zg 12 9 false (.bin .gtr 11 (zi 6)),zP 13 9 (.k (.bool true)) 12,zm 14 13,zg 15 14 false (.fad 40 1 10 1),zg 16 14 false (.ld 10 15),zg 17 14 false (.bin .lss 16 (zi 0)),zP 18 14 (.k (.bool true)) 17,zm 19 18,zg 20 19 false (.fad 40 1 10 1),zg 21 19 false (.ld 10 20),zg 22 19 false (.bin .gtr 21 (zi 15)),zP 23 19 (.k (.bool true)) 22,zm 24 23,zg 25 24 false (.fad 40 2 10 1),zg 26 24 false (.ld 10 25),zg 27 24 false (.bin .lss 26 (zi 0)),zP 28 24 (.k (.bool true)) 27,zm 29 28,zg 30 29 false (.fad 40 2 10 1),zg 31 29 false (.ld 10 30),zg 32 29 false (.bin .geq 31 (zi 49)),zP 33 29 (.k (.bool true)) 32,zm 34 33,zg 35 34 false (.fad 40 3 10 1),zg 36 34 false (.ld 10 35),zg 37 34 false (.bin .lss 36 (zi 0)),zP 38 34 (.k (.bool true)) 37,zm 39 38,zg 40 39 false (.fad 40 3 10 1),zg 41 39 false (.ld 10 40),zg 42 39 false (.bin .gtr 41 (zi 16777215)),zP 43 39 (.k (.bool true)) 42,zm 44 43,zg 45 44 false (.fad 40 4 10 1),zg 46 44 false (.ld 10 45),zg 47 44 false (.bin .lss 46 (zi 0)),zP 48 44 (.k (.bool true)) 47,zm 49 48,zg 50 49 false (.fad 40 4 10 1),zg 51 49 false (.ld 10 50),zg 52 49 false (.bin .gtr 51 (zi 65535)),zP 53 49 (.k (.bool true)) 52]
def O3:C:=zR [2,3] [zm 2 (.k (.int .u64 0)),zm 3 (zi 1)]
def Ni:C:=zR [1,71] [zF 54 40 0 10 1,zL 55 10 54,zB 56 .eql 55 (zi 5),zm 57 56,zg 58 57 false (.fad 40 0 10 1),zg 59 57 false (.ld 10 58),zg 60 57 false (.bin .eql 59 (zi 6)),zP 61 57 (.k (.bool true)) 60,zm 62 61,zg 63 62 true (.fad 40 2 10 1),zg 64 62 true (.ld 10 63),zg 65 62 true (.bin .neq 64 (zi 0)),zg 66 62 true (.mv 65),zg 67 66 false (.fad 40 3 10 1),zg 68 66 false (.ld 10 67),zg 69 66 false (.bin .neq 68 (zi 0)),zg 70 62 true (.pick 66 (.k (.bool true)) 69),zP 71 62 70 (.k (.bool false))]
def JV:C:=zR [2,3] [zm 2 (.k (.int .u64 0)),zm 3 (zi 1)]
def Pr:C:=zR [1,4] [zF 73 40 0 10 1,zL 74 10 73,zq 75 (.conv .u64 74),zC 76 (zf aQ) [(.k (.int .u64 0)),(zi 0),(zi 4),75],zm 72 76,zE 77 72 0,zE 78 72 1,zm 4 77,zm 5 78]
def PK:C:=zR [1,4] [zm 80 4,zF 81 40 1 10 1,zL 82 10 81,zq 83 (.conv .u64 82),zC 84 (zf aQ) [80,(zi 4),(zi 4),83],zm 79 84,zE 85 79 0,zE 86 79 1,zm 4 85]
def Q6:C:=zR [1,4] [zm 88 4,zF 89 40 2 10 1,zL 90 10 89,zq 91 (.conv .u64 90),zC 92 (zf aQ) [88,(zi 8),(zi 16),91],zm 87 92,zE 93 87 0,zE 94 87 1,zm 4 93]
def RJ:C:=zR [1,4] [zm 96 4,zF 97 40 3 10 1,zL 98 10 97,zq 99 (.conv .u64 98),zC 100 (zf aQ) [96,(zi 24),(zi 24),99],zm 95 100,zE 101 95 0,zE 102 95 1,zm 4 101]
def QY:C:=zR [4] [zm 104 4,zF 105 40 4 10 1,zL 106 10 105,zq 107 (.conv .u64 106),zC 108 (zf aQ) [104,(zi 48),(zi 16),107],zm 103 108,zE 109 103 0,zE 110 103 1,zm 4 109]
def CA:C:=zR [2,3] [zm 111 4,zm 2 111,zm 3 (zi 0)]
@[go_sem] def gZ:Fc:=⟨1,.seq NK (.seq (.seq Ko (.cond (.t 53) (.seq O3 (.ret)) (.skip))) (.seq (.seq Ni (.cond (.t 71) (.seq JV (.ret)) (.skip))) (.seq Pr (.seq PK (.seq Q6 (.seq RJ (.seq QY (.seq CA (.ret))))))))),[.t 2,.t 3]⟩
def Py:C:=zR [0,1] [zm 4 (zi 0)]
def NC:C:=zR [0,1,5] [zm 6 1,zm 7 0,zN 8 7,zF 9 80 0 10 8,zL 10 10 9,zB 11 .lss 6 10,zm 5 11]
def Kp:C:=zR [0,1,5] [zm 12 1,zm 13 0,zN 14 13,zF 15 80 1 10 14,zL 16 10 15,zB 17 .geq 12 16,zm 5 17]
def I4:C:=zR [4] [zm 4 (zi (-1))]
def Ls:C:=zR [0,1,18] [zm 19 0,zN 20 19,zF 21 80 2 78 20,zm 22 1,zC 23 (zf dP) [21,22],zm 18 23]
def Qq:C:=zR [4] [zm 4 (zi 0)]
def JY:C:=zR [24] [zm 25 0,zN 26 25,zF 27 80 3 78 26,zm 28 1,zC 29 (zf dP) [27,28],zm 24 29]
def Jt:C:=zR [4] [zm 4 (zi 2)]
def IY:C:=zR [4] [zm 4 (zi 1)]
@[go_sem] def ip:Fc:=⟨2,.seq Py (.seq (.block 0 (.seq (.seq NC (.cond (.t 5) (.skip) Kp)) (.cond (.t 5) (.seq I4 (.ret)) (.seq Ls (.cond (.t 18) (.seq Qq (.ret)) (.seq JY (.cond (.t 24) (.seq Jt (.ret)) (.skip)))))))) (.seq IY (.ret))),[.t 4]⟩
def Ky:C:=zR [0,1] [zm 4 (zi 0)]
def HV:C:=zD [0,1,24] [zm 5 1,zm 6 0,zN 7 6,zF 8 21 0 10 7,zL 9 10 8,zB 10 .lss 5 9,zm 11 10,zg 12 11 false (.mv 1),zg 13 11 false (.mv 0),zg 14 11 false (.nilc 13),zg 15 11 false (.fad 21 0 10 14),zg 16 11 false (.ld 10 15),zg 17 11 false (.bin .sub 12 16),zg 18 11 false (.mv 0),zg 19 11 false (.nilc 18),zg 20 11 false (.fad 21 1 1 19),zg 21 11 false (.ld 1 20),zg 22 11 false (.len false 21),zg 23 11 false (.bin .geq 17 22),zP 24 11 (.k (.bool true)) 23]
def Jn:C:=zR [4] [zm 4 (zi (-1))]
def Jq:C:=zD [4] [zm 25 0,zN 26 25,zF 27 21 1 1 26,zL 28 1 27,zm 29 1,zm 30 0,zN 31 30,zF 32 21 0 10 31,zL 33 10 32,zB 34 .sub 29 33,zq 35 (.sad 10 28 34),zL 36 10 35,zm 4 36]
@[go_sem] def en:Fc:=⟨2,.seq Ky (.seq (.seq HV (.cond (.t 24) (.seq Jn (.ret)) (.skip))) (.seq Jq (.ret))),[.t 4]⟩
def IR:C:=zR [0] [zm 2 (zi 0)]
def LY:C:=zR [0,13] [zm 3 0,zN 4 3,zF 5 33 2 0 4,zL 6 0 5,zm 7 6,zg 8 7 false (.mv 0),zg 9 7 false (.nilc 8),zg 10 7 false (.fad 33 3 10 9),zg 11 7 false (.ld 10 10),zg 12 7 false (.bin .eql 11 (zi 0)),zP 13 7 (.k (.bool true)) 12]
def RQ:C:=zR [] [zm 14 0,zN 15 14,zF 16 33 2 0 15,zS 0 16 (.k (.bool true))]
def O8:C:=zR [2] [zm 2 (zi 4)]
def RE:C:=zR [0,21] [zm 17 0,zN 18 17,zF 19 33 3 10 18,zL 20 10 19,zB 21 .gtr 20 (zi 0)]
def M4:C:=zR [0] [zm 22 0,zN 23 22,zF 24 33 3 10 23,zL 25 10 24,zB 26 .sub 25 (zi 1),zN 27 22,zF 28 33 3 10 27,zS 10 28 26]
def PE:C:=zR [] [zm 29 0,zN 30 29,zF 31 33 4 10 30,zL 32 10 31,zB 33 .add 32 (zi 1),zN 34 29,zF 35 33 4 10 34,zS 10 35 33]
def Kb:C:=zR [2] [zm 2 (zi 0)]
@[go_sem] def eE:Fc:=⟨1,.seq IR (.seq (.seq LY (.cond (.t 13) (.seq RQ (.seq O8 (.ret))) (.skip))) (.seq (.seq RE (.cond (.t 21) M4 (.skip))) (.seq PE (.seq Kb (.ret))))),[.t 2]⟩
def Qh:C:=zR [0,1] [zm 4 (zi 0)]
def Io:C:=zR [0,1,5] [zm 6 0,zm 7 1,zC 8 (zf cg) [6,7,(zi 1)],zm 5 8]
def Jw:C:=zR [0,1,5,10] [zm 9 5,zB 10 .eql 9 (zi 0)]
def Ro:C:=zR [5] [zm 11 0,zN 12 11,zF 13 80 3 78 12,zm 14 1,zC 15 (zf aY) [13,14]]
def OP:C:=zR [4] [zm 16 5,zm 4 16]
@[go_sem] def ic:Fc:=⟨2,.seq Qh (.seq Io (.seq (.seq Jw (.cond (.t 10) Ro (.skip))) (.seq OP (.ret)))),[.t 4]⟩
def Qg:C:=zR [0,7,8] [zm 4 0,zN 5 4,zF 6 80 3 78 5,zL 7 78 6,zm 8 (zi 0)]
def LS:C:=zR [0,7,8,9] [zB 9 .lss 8 (zi 16)]
def R5:C:=zR [0,2,3,7,8] [zm 10 8,zq 11 (.idx 78 16 7 8),zm 2 10,zm 3 11]
def Hw:C:=zD [0,7,8] [zm 12 0,zm 13 2,zN 14 12,zF 15 80 2 78 14,zq 16 (.iad 78 16 18 15 13),zL 17 18 16,zm 18 3,zB 19 .or 17 18,zN 20 12,zF 21 80 2 78 20,zq 22 (.iad 78 16 18 21 13),zS 18 22 19]
def MM:C:=zR [0,7,8] [zB 23 .add 8 (zi 1),zm 8 23]
def NF:C:=zR [] [zm 24 0,zq 25 (.bld (.agg 78 (List.replicate 16 (.int .u64 0))) []),zN 26 24,zF 27 80 3 78 26,zS 78 27 25]
def cR:C:=.seq LS (.seq (.cond (.t 9) (.skip) (.exit 0)) (.seq (.block 1 (.seq R5 Hw)) MM))
@[go_sem] def gJ:Fc:=⟨1,.seq (.seq Qg (.block 0 (.loop [0,7,8] cR))) NF,[]⟩
def EJ:C:=zR [0,1,2] [zm 6 (.k (.bool false))]
def CH:C:=zR [6] [zm 7 0,zm 8 1,zB 9 .geq 7 8,zm 10 9,zg 11 10 true (.mv 0),zg 12 10 true (.mv 2),zg 13 10 true (.bin .leq 11 12),zP 14 10 13 (.k (.bool false)),zm 6 14]
@[go_sem] def lL:Fc:=⟨3,.seq EJ (.seq CH (.ret)),[.t 6]⟩
def Ck:C:=zR [0,1] [zm 4 (.k (.bool false))]
def DL:C:=zR [4] [zm 5 0,zB 6 .geq 5 (zi 0),zm 7 6,zg 8 7 true (.mv 0),zg 9 7 true (.bin .leq 8 (zi 63)),zP 10 7 9 (.k (.bool false)),zm 11 10,zg 12 11 true (.mv 1),zg 13 11 true (.bin .geq 12 (zi 1)),zP 14 11 13 (.k (.bool false)),zm 15 14,zg 16 15 true (.mv 1),zg 17 15 true (.bin .leq 16 (zi 64)),zP 18 15 17 (.k (.bool false)),zm 19 18,zg 20 19 true (.mv 0),zg 21 19 true (.mv 1),zg 22 19 true (.bin .add 20 21),zg 23 19 true (.bin .leq 22 (zi 64)),zP 24 19 23 (.k (.bool false)),zm 4 24]
@[go_sem] def i9:Fc:=⟨2,.seq Ck (.seq DL (.ret)),[.t 4]⟩
def CV:C:=zR [0,1] [zm 4 (.k (.int .u64 0))]
def Cz:C:=zR [4] [zm 5 0,zm 6 1,zB 7 .shr 5 6,zB 8 .and 7 (.k (.int .u64 1)),zm 4 8]
@[go_sem] def iJ:Fc:=⟨2,.seq CV (.seq Cz (.ret)),[.t 4]⟩
def Cw:C:=zR [0,1,2,3] [zm 8 (.k (.int .u64 0)),zm 9 (zi 0)]
def E8:C:=zR [0,1,2,3,15] [zm 12 1,zm 13 2,zC 14 (zf dB) [12,13],zq 15 (.un .not 14)]
def DX:C:=zR [8,9] [zm 8 (.k (.int .u64 0)),zm 9 (zi 1)]
def DO:C:=zR [0,1,2,3,10] [zm 16 2,zm 10 16]
def Ei:C:=zR [0,1,2,3,10,18] [zm 17 10,zB 18 .lss 17 (zi 64)]
def Dw:C:=zR [0,1,2,3,10,24] [zm 21 3,zm 22 10,zC 23 (zf be) [21,22],zB 24 .eql 23 (.k (.int .u64 1))]
def CS:C:=zR [8,9] [zm 8 (.k (.int .u64 0)),zm 9 (zi 2)]
def Du:C:=zR [0,1,2,3,10] [zm 19 10,zB 20 .add 19 (zi 1),zm 10 20]
def D5:C:=zR [0,1,2,3,11] [zm 11 (zi 0)]
def Fg:C:=zR [0,1,2,3,11,27] [zm 25 11,zm 26 2,zB 27 .lss 25 26]
def Ac:C:=zR [0,1,2,3,11,38] [zm 30 3,zm 31 11,zC 32 (zf be) [30,31],zm 33 0,zm 34 1,zm 35 11,zB 36 .add 34 35,zC 37 (zf be) [33,36],zB 38 .neq 32 37]
def zz:C:=zR [0,1,2,3,11] [zm 39 0,zm 40 1,zm 41 11,zB 42 .add 40 41,zB 43 .shl (.k (.int .u64 1)) 42,zB 44 .xor 39 43,zm 0 44]
def Aq:C:=zR [0,1,2,3,11] [zm 28 11,zB 29 .add 28 (zi 1),zm 11 29]
def Am:C:=zR [8,9] [zm 45 0,zm 8 45,zm 9 (zi 0)]
def eM:C:=.seq (.seq Ei (.cond (.t 18) (.skip) (.exit 0))) (.seq (.block 1 (.seq Dw (.cond (.t 24) (.seq CS (.ret)) (.skip)))) Du)
def dj:C:=.seq (.seq Fg (.cond (.t 27) (.skip) (.exit 2))) (.seq (.block 3 (.seq Ac (.cond (.t 38) zz (.skip)))) Aq)
@[go_sem] def ib:Fc:=⟨4,.seq Cw (.seq (.seq E8 (.cond (.t 15) (.seq DX (.ret)) (.skip))) (.seq (.seq DO (.block 0 (.loop [0,1,2,3,10] eM))) (.seq (.seq D5 (.block 2 (.loop [0,1,2,3,11] dj))) (.seq Am (.ret))))),[.t 8,.t 9]⟩
def D3:C:=zR [0,1] [zm 4 (.k (.bool false))]
def Ea:C:=zR [4] [zm 5 0,zm 6 1,zB 7 .quo 6 (zi 64),zN 8 5,zq 9 (.iad 78 16 18 8 7),zL 10 18 9,zm 11 1,zB 12 .rem 11 (zi 64),zB 13 .shr 10 12,zB 14 .and 13 (.k (.int .u64 1)),zB 15 .eql 14 (.k (.int .u64 1)),zm 4 15]
@[go_sem] def ka:Fc:=⟨2,.seq D3 (.seq Ea (.ret)),[.t 4]⟩
def D : Nat → Option Fc
  | 3 => some eA
  | 4 => some j7
  | 5 => some hU
  | 6 => some qg
  | 7 => some iE
  | 8 => some mU
  | 9 => some gC
  | 10 => some kB
  | 11 => some jl
  | 12 => some jR
  | 13 => some eI
  | 14 => some iG
  | 15 => some dZ
  | 16 => some jy
  | 17 => some ie
  | 18 => some iy
  | 19 => some jg
  | 20 => some iN
  | 21 => some ik
  | 22 => some i7
  | 23 => some fC
  | 24 => some il
  | 25 => some eG
  | 26 => some iT
  | 27 => some eS
  | 28 => some hJ
  | 29 => some jB
  | 30 => some jK
  | 31 => some eC
  | 32 => some ij
  | 33 => some jm
  | 34 => some mV
  | 35 => some jz
  | 36 => some iL
  | 37 => some it
  | 38 => some iM
  | 39 => some gG
  | 40 => some eF
  | 41 => some ii
  | 42 => some gj
  | 43 => some f7
  | 44 => some iq
  | 45 => some i6
  | 46 => some jE
  | 47 => some je
  | 48 => some jx
  | 49 => some iS
  | 50 => some fw
  | 51 => some eR
  | 52 => some i5
  | 53 => some fv
  | 54 => some eQ
  | 55 => some gz
  | 56 => some ec
  | 57 => some ir
  | 58 => some eD
  | 59 => some iD
  | 60 => some eO
  | 61 => some fO
  | 62 => some qA
  | 63 => some l7
  | 64 => some jd
  | 65 => some gF
  | 66 => some mP
  | 67 => some ig
  | 68 => some iB
  | 69 => some gA
  | 70 => some iz
  | 71 => some eH
  | 72 => some kq
  | 73 => some fB
  | 74 => some eT
  | 75 => some jM
  | 76 => some jw
  | 77 => some jf
  | 78 => some eB
  | 79 => some eV
  | 80 => some jS
  | 81 => some gi
  | 82 => some ft
  | 83 => some d8
  | 84 => some ff
  | 85 => some iV
  | 86 => some nR
  | 87 => some eu
  | 88 => some iR
  | 89 => some gD
  | 90 => some eU
  | 91 => some ja
  | 92 => some oE
  | 93 => some gI
  | 94 => some gZ
  | 95 => some ip
  | 96 => some en
  | 97 => some eE
  | 98 => some ic
  | 99 => some gJ
  | 100 => some lL
  | 101 => some i9
  | 102 => some iJ
  | 103 => some ib
  | 104 => some ka
  | _ => none
theorem lS:D iA = some eA:=rfl
theorem pw:D aC = some hU:=rfl
theorem Dt:D kA = some qg:=rfl
theorem pO:D eh = some iE:=rfl
theorem kP:D dG = some mU:=rfl
theorem oF:D ct = some gC:=rfl
theorem jF:D bx = some jl:=rfl
theorem sD:D ix = some jR:=rfl
theorem lO:D cT = some eI:=rfl
theorem qo:D fS = some iG:=rfl
theorem iv:D aU = some dZ:=rfl
theorem ru:D gT = some jy:=rfl
theorem oZ:D fL = some ie:=rfl
theorem jc:D cm = some iy:=rfl
theorem cC:D bU = some jg:=rfl
theorem kR:D cW = some iN:=rfl
theorem bA:D fG = some ik:=rfl
theorem lG:D eN = some i7:=rfl
theorem jq:D dN = some fC:=rfl
theorem pE:D dR = some il:=rfl
theorem lT:D cY = some eG:=rfl
theorem jo:D bN = some iT:=rfl
theorem fg:D bE = some eS:=rfl
theorem pl:D fN = some hJ:=rfl
theorem rz:D gW = some jB:=rfl
theorem mY:D cA = some jK:=rfl
theorem iF:D aW = some eC:=rfl
theorem pM:D cI = some ij:=rfl
theorem qW:D gp = some jm:=rfl
theorem rp:D iQ = some mV:=rfl
theorem rM:D cj = some jz:=rfl
theorem kO:D cl = some iL:=rfl
theorem pJ:D bB = some it:=rfl
theorem lh:D d9 = some iM:=rfl
theorem oG:D aK = some gG:=rfl
theorem md:D br = some eF:=rfl
theorem ky:D bD = some ii:=rfl
theorem oa:D eL = some gj:=rfl
theorem jL:D em = some f7:=rfl
theorem pv:D dU = some iq:=rfl
theorem lC:D dA = some i6:=rfl
theorem rU:D bg = some jE:=rfl
theorem qX:D bw = some je:=rfl
theorem gX:D dQ = some jx:=rfl
theorem pS:D bq = some iS:=rfl
theorem bl:D dL = some fw:=rfl
theorem fe:D du = some eR:=rfl
theorem jC:D gv = some i5:=rfl
theorem fP:D dM = some fv:=rfl
theorem iZ:D dt = some eQ:=rfl
theorem kg:D eW = some gz:=rfl
theorem iu:D cO = some ec:=rfl
theorem kD:D fM = some ir:=rfl
theorem iK:D da = some eD:=rfl
theorem qG:D cX = some iD:=rfl
theorem mF:D bz = some eO:=rfl
theorem nk:D aX = some fO:=rfl
theorem Dz:D kw = some qA:=rfl
theorem vV:D km = some l7:=rfl
theorem lF:D dw = some jd:=rfl
theorem oW:D fa = some gF:=rfl
theorem wN:D kL = some mP:=rfl
theorem pD:D fH = some ig:=rfl
theorem qE:D fU = some iB:=rfl
theorem oP:D eZ = some gA:=rfl
theorem qa:D ei = some iz:=rfl
theorem lP:D aI = some eH:=rfl
theorem t9:D fF = some kq:=rfl
theorem mT:D bH = some fB:=rfl
theorem mu:D dp = some eT:=rfl
theorem mZ:D aY = some jM:=rfl
theorem rl:D cg = some jw:=rfl
theorem lD:D bv = some jf:=rfl
theorem lM:D aN = some eB:=rfl
theorem mA:D dq = some eV:=rfl
theorem sC:D ep = some jS:=rfl
theorem n5:D eJ = some gi:=rfl
theorem mX:D aZ = some ft:=rfl
theorem cK:D bn = some d8:=rfl
theorem js:D bI = some ff:=rfl
theorem kU:D dg = some iV:=rfl
theorem yC:D mi = some nR:=rfl
theorem lN:D bd = some eu:=rfl
theorem qb:D f6 = some iR:=rfl
theorem oO:D cv = some gD:=rfl
theorem mE:D bC = some eU:=rfl
theorem lE:D bc = some ja:=rfl
theorem AB:D m6 = some oE:=rfl
theorem oS:D aL = some gI:=rfl
theorem o6:D fJ = some gZ:=rfl
theorem iW:D ca = some ip:=rfl
theorem ew:D cJ = some en:=rfl
theorem lV:D db = some eE:=rfl
theorem kz:D cH = some ic:=rfl
theorem oX:D dI = some gJ:=rfl
theorem wa:D bV = some lL:=rfl
theorem qU:D dB = some i9:=rfl
theorem qc:D be = some iJ:=rfl
theorem o4:D aQ = some ib:=rfl
theorem nH:D dP = some ka:=rfl
@[go_sem] theorem ajr:rc D b Vh ρ s=(fun v0 v1 v2=>(if V.ok v0 && ay false v0 then let x0:V:=.ptr (St.fresh s false) [] (V.tag v0); let s0:St:=St.new s false v0; some (.normal,[(1,v1),(2,v2),(3,x0)],s0) else none:OR)) (get ρ 0) (get ρ 1) (get ρ 2):=zr
@[go_sem] theorem ajf:rc D b UN ρ s=(fun v1 v2 v3=>(aa (rf D fb [] s) fun x0=>some (.normal,[(1,v1),(2,v2),(3,v3),(7,x0.1)],x0.2):OR)) (get ρ 1) (get ρ 2) (get ρ 3):=zr
@[go_sem] theorem ajj:rc D b Uo ρ s=(fun v1 v2 v3 v7=>(aa (bb 22 2 10 v3 (.int .i64 0)) fun x0=>aa (ldv s 10 x0) fun x1=>aa (rf D aC [x1,(.int .i64 64)] s) fun x2=>aa (ac .add (.int .i64 64) x2.1) fun x3=>some (.normal,[(1,v1),(2,v2),(3,v3),(7,v7),(8,x3)],x2.2):OR)) (get ρ 1) (get ρ 2) (get ρ 3) (get ρ 7):=zr
@[go_sem] theorem ajl:rc D b Vx ρ s=(fun v1 v2 v3 v7 v8=>(aa (rf D kA [v8] s) fun x0=>aa (aw 0 x0.1) fun x1=>aa (aw 1 x0.1) fun _x2=>some (.normal,[(1,v1),(2,v2),(3,v3),(7,v7),(8,v8),(9,x1)],x0.2):OR)) (get ρ 1) (get ρ 2) (get ρ 3) (get ρ 7) (get ρ 8):=zr
@[go_sem] theorem ajs:rc D b VF ρ s=(fun v1 v2 v3 v7 v8 v9=>(aa (rf D eh [v8] s) fun x0=>aa (aw 0 x0.1) fun x1=>aa (aw 1 x0.1) fun _x2=>some (.normal,[(1,v1),(2,v2),(3,v3),(7,v7),(8,v8),(9,v9),(11,x1)],x0.2):OR)) (get ρ 1) (get ρ 2) (get ρ 3) (get ρ 7) (get ρ 8) (get ρ 9):=zr
@[go_sem] theorem ai8:rc D b U3 ρ s=(fun v1 v2 v3 v7 v8 v9 v11=>(aa (vun .not v7) fun x0=>al x0 false (aa (eqv false 1 v9 .nilp) fun x1=>some (.normal,[(1,v1),(2,v2),(3,v3),(8,v8),(9,v9),(11,v11),(66,x1)],s)) (some (.normal,[(1,v1),(2,v2),(3,v3),(8,v8),(9,v9),(11,v11),(66,(.bool true))],s)) (none):OR)) (get ρ 1) (get ρ 2) (get ρ 3) (get ρ 7) (get ρ 8) (get ρ 9) (get ρ 11):=zr
@[go_sem] theorem ajp:rc D b VJ ρ s= some (.normal,[(6,(.bool false))],s):=zr
@[go_sem] theorem ajt:rc D b US ρ s=(fun v1 v2 v3 v8 v9 v11=>(aa (bb 22 2 10 v3 (.int .i64 1)) fun x0=>aa (ldv s 10 x0) fun x1=>aa (rf D aC [x1,(.int .i64 31)] s) fun x2=>aa (rf D ct [x2.1] x2.2) fun x3=>aa (rf D bp [] x3.2) fun x4=>aa (rf D dG [v9,(.int .i64 10),x3.1,x4.1] x4.2) fun x5=>aa (aw 0 x5.1) fun x6=>aa (aw 1 x5.1) fun x7=>some (.normal,[(1,v1),(2,v2),(3,v3),(8,v8),(9,v9),(11,v11),(13,x6),(14,x7)],x5.2):OR)) (get ρ 1) (get ρ 2) (get ρ 3) (get ρ 8) (get ρ 9) (get ρ 11):=zr
@[go_sem] theorem ajD:rc D b Vq ρ s=(fun v1 v2 v3 v8 v9 v11 v13 v14=>(aa (bb 22 2 10 v3 (.int .i64 1)) fun x0=>aa (ldv s 10 x0) fun x1=>aa (rf D aC [x1,(.int .i64 31)] s) fun x2=>aa (rf D ct [x2.1] x2.2) fun x3=>aa (rf D bp [] x3.2) fun x4=>aa (rf D bx [v11,(.int .i64 10),x3.1,x4.1] x4.2) fun x5=>aa (aw 0 x5.1) fun x6=>aa (aw 1 x5.1) fun x7=>some (.normal,[(1,v1),(2,v2),(8,v8),(9,v9),(11,v11),(13,v13),(14,v14),(15,x6),(16,x7)],x5.2):OR)) (get ρ 1) (get ρ 2) (get ρ 3) (get ρ 8) (get ρ 9) (get ρ 11) (get ρ 13) (get ρ 14):=zr
@[go_sem] theorem ajd:rc D b Uu ρ s=(fun v1 v2 v8 v9 v11 v13 v14 v15 v16=>(aa (eqv false 1 v13 .nilp) fun x0=>al x0 false (aa (ac .neq v14 (.int .i64 0)) fun x1=>al x1 false (aa (ac .neq v16 (.int .i64 0)) fun x2=>some (.normal,[(1,v1),(2,v2),(8,v8),(9,v9),(11,v11),(13,v13),(15,v15),(96,x2)],s)) (some (.normal,[(1,v1),(2,v2),(8,v8),(9,v9),(11,v11),(13,v13),(15,v15),(96,(.bool true))],s)) (none)) (some (.normal,[(1,v1),(2,v2),(8,v8),(9,v9),(11,v11),(13,v13),(15,v15),(96,(.bool true))],s)) (none):OR)) (get ρ 1) (get ρ 2) (get ρ 8) (get ρ 9) (get ρ 11) (get ρ 13) (get ρ 14) (get ρ 15) (get ρ 16):=zr
@[go_sem] theorem afl:rc D b QR ρ s= some (.normal,[(6,(.bool false))],s):=zr
@[go_sem] theorem Zl:rc D b II ρ s=(fun v1 v2 v8 v9 v11 v13 v15=>(aa (rf D ix [v9,v2] s) fun x0=>some (.normal,[(1,v1),(2,v2),(8,v8),(9,v9),(11,v11),(13,v13),(15,v15)],x0.2):OR)) (get ρ 1) (get ρ 2) (get ρ 8) (get ρ 9) (get ρ 11) (get ρ 13) (get ρ 15):=zr
@[go_sem] theorem afs:rc D b Sc ρ s=(fun v1 v2 v8 v9 v11 v13 v15=>(aa (rf D cT [v11,v2] s) fun x0=>some (.normal,[(1,v1),(8,v8),(9,v9),(11,v11),(13,v13),(15,v15)],x0.2):OR)) (get ρ 1) (get ρ 2) (get ρ 8) (get ρ 9) (get ρ 11) (get ρ 13) (get ρ 15):=zr
@[go_sem] theorem ahB:rc D b LI ρ s=(fun v1 v8 v9 v11 v13 v15=>(aa (kr false 38 10 0 (.int .i64 0) s []) fun x0=>some (.normal,[(1,v1),(8,v8),(9,v9),(11,v11),(13,v13),(15,v15),(17,x0.1)],x0.2):OR)) (get ρ 1) (get ρ 8) (get ρ 9) (get ρ 11) (get ρ 13) (get ρ 15):=zr
@[go_sem] theorem acv:rc D b Jv ρ s=(fun v1 v8 v9 v11 v13 v15 v17=>(some (.normal,[(1,v1),(8,v8),(9,v9),(11,v11),(13,v13),(15,v15),(17,v17),(18,(.int .i64 0))],s):OR)) (get ρ 1) (get ρ 8) (get ρ 9) (get ρ 11) (get ρ 13) (get ρ 15) (get ρ 17):=zr
@[go_sem] theorem Zg:rc D b Jd ρ s=(fun v1 v8 v9 v11 v13 v15 v17 v18=>(aa (V.slen false v1) fun x0=>aa (ac .lss v18 (.int .i64 x0)) fun x1=>al x1 true (aa (ac .lss v18 (.int .i64 80)) fun x2=>some (.normal,[(1,v1),(8,v8),(9,v9),(11,v11),(13,v13),(15,v15),(17,v17),(18,v18),(111,x2)],s)) (some (.normal,[(1,v1),(8,v8),(9,v9),(11,v11),(13,v13),(15,v15),(17,v17),(18,v18),(111,(.bool false))],s)) (none):OR)) (get ρ 1) (get ρ 8) (get ρ 9) (get ρ 11) (get ρ 13) (get ρ 15) (get ρ 17) (get ρ 18):=zr
@[go_sem] theorem aiY:rc D b R8 ρ s=(fun v1 v8 v9 v11 v13 v15 v17 v18=>(aa (co 54 v1 v18) fun x0=>aa (ldv s 54 x0) fun x1=>let x2:V:=.ptr (St.fresh s false) [] 54; let s2:St:=St.new s false (.agg 54 [(.int .i64 0),(.int .i64 0),(.int .i64 0),(.int .u64 0)]); aa (stv b s2 54 x1 x2) fun s3=>some (.normal,[(1,v1),(8,v8),(9,v9),(11,v11),(13,v13),(15,v15),(17,v17),(18,v18),(19,x2)],s3):OR)) (get ρ 1) (get ρ 8) (get ρ 9) (get ρ 11) (get ρ 13) (get ρ 15) (get ρ 17) (get ρ 18):=zr
@[go_sem] theorem ZR:rc D b IQ ρ s=(fun v1 v8 v9 v11 v13 v15 v17 v18 v19=>(aa (ae 54 0 10 v19) fun x0=>aa (ldv s 10 x0) fun x1=>aa (rf D aC [x1,(.int .i64 12)] s) fun x2=>aa (ac .eql x2.1 (.int .i64 7)) fun x3=>some (.normal,[(1,v1),(8,v8),(9,v9),(11,v11),(13,v13),(15,v15),(17,v17),(18,v18),(19,v19),(121,x3)],x2.2):OR)) (get ρ 1) (get ρ 8) (get ρ 9) (get ρ 11) (get ρ 13) (get ρ 15) (get ρ 17) (get ρ 18) (get ρ 19):=zr
@[go_sem] theorem afZ:rc D b K6 ρ s=(fun v1 v8 v9 v11 v13 v15 v17 v18 v19=>(aa (rf D fS [v13] s) fun x0=>aa (aw 0 x0.1) fun x1=>aa (aw 1 x0.1) fun x2=>some (.normal,[(1,v1),(8,v8),(9,v9),(11,v11),(13,v13),(15,v15),(17,v17),(18,v18),(19,v19),(20,x1),(21,x2)],x0.2):OR)) (get ρ 1) (get ρ 8) (get ρ 9) (get ρ 11) (get ρ 13) (get ρ 15) (get ρ 17) (get ρ 18) (get ρ 19):=zr
@[go_sem] theorem aa0:rc D b JI ρ s=(fun v1 v8 v9 v11 v13 v15 v17 v18 v19 v20 v21=>(aa (ag v15) fun x0=>aa (ae 31 1 1 x0) fun x1=>aa (ldv s 1 x1) fun x2=>aa (rf D aU [x2] s) fun x3=>aa (aw 0 x3.1) fun x4=>aa (aw 1 x3.1) fun x5=>some (.normal,[(1,v1),(8,v8),(9,v9),(11,v11),(13,v13),(15,v15),(17,v17),(18,v18),(19,v19),(20,v20),(21,v21),(22,x4),(23,x5)],x3.2):OR)) (get ρ 1) (get ρ 8) (get ρ 9) (get ρ 11) (get ρ 13) (get ρ 15) (get ρ 17) (get ρ 18) (get ρ 19) (get ρ 20) (get ρ 21):=zr
@[go_sem] theorem adA:rc D b NO ρ s=(fun v1 v8 v9 v11 v13 v15 v17 v18 v19 v20 v21 v22 v23=>(aa (ac .neq v20 v22) fun x0=>al x0 false (aa (ac .neq v21 v23) fun x1=>some (.normal,[(1,v1),(8,v8),(9,v9),(11,v11),(13,v13),(15,v15),(17,v17),(18,v18),(19,v19),(20,v20),(21,v21),(142,x1)],s)) (some (.normal,[(1,v1),(8,v8),(9,v9),(11,v11),(13,v13),(15,v15),(17,v17),(18,v18),(19,v19),(20,v20),(21,v21),(142,(.bool true))],s)) (none):OR)) (get ρ 1) (get ρ 8) (get ρ 9) (get ρ 11) (get ρ 13) (get ρ 15) (get ρ 17) (get ρ 18) (get ρ 19) (get ρ 20) (get ρ 21) (get ρ 22) (get ρ 23):=zr
@[go_sem] theorem agE:rc D b PL ρ s= some (.normal,[(6,(.bool false))],s):=zr
@[go_sem] theorem aeJ:rc D b Ju ρ s=(fun v1 v8 v9 v11 v13 v15 v17 v18 v19 v20 v21=>(aa (ac .eql v21 (.int .i64 0)) fun x0=>some (.normal,[(1,v1),(8,v8),(9,v9),(11,v11),(13,v13),(15,v15),(17,v17),(18,v18),(19,v19),(20,v20),(144,x0)],s):OR)) (get ρ 1) (get ρ 8) (get ρ 9) (get ρ 11) (get ρ 13) (get ρ 15) (get ρ 17) (get ρ 18) (get ρ 19) (get ρ 20) (get ρ 21):=zr
@[go_sem] theorem ahp:rc D b Hu ρ s=(fun v1 v8 v9 v11 v13 v15 v17 v18 v19 v20=>(aa (kr false 38 10 1 (.int .i64 0) s [(0,v20)]) fun x0=>aa (aA b true 38 10 v17 x0.1 x0.2) fun x1=>some (.normal,[(1,v1),(8,v8),(9,v9),(11,v11),(13,v13),(15,v15),(17,x1.1),(18,v18),(19,v19)],x1.2):OR)) (get ρ 1) (get ρ 8) (get ρ 9) (get ρ 11) (get ρ 13) (get ρ 15) (get ρ 17) (get ρ 18) (get ρ 19) (get ρ 20):=zr
@[go_sem] theorem aiU:rc D b Ru ρ s=(fun v1 v8 v9 v11 v13 v15 v17 v18 v19=>(aa (ae 54 0 10 v19) fun x0=>aa (ldv s 10 x0) fun x1=>aa (rf D aC [x1,(.int .i64 12)] s) fun x2=>aa (ac .eql x2.1 (.int .i64 11)) fun x3=>some (.normal,[(1,v1),(8,v8),(9,v9),(11,v11),(13,v13),(15,v15),(17,v17),(18,v18),(19,v19),(152,x3)],x2.2):OR)) (get ρ 1) (get ρ 8) (get ρ 9) (get ρ 11) (get ρ 13) (get ρ 15) (get ρ 17) (get ρ 18) (get ρ 19):=zr
@[go_sem] theorem ae3:rc D b HG ρ s=(fun v1 v8 v9 v11 v13 v15 v17 v18 v19=>(aa (rf D gT [v9] s) fun x0=>some (.normal,[(1,v1),(8,v8),(9,x0.1),(11,v11),(13,v13),(15,v15),(17,v17),(18,v18),(19,v19)],x0.2):OR)) (get ρ 1) (get ρ 8) (get ρ 9) (get ρ 11) (get ρ 13) (get ρ 15) (get ρ 17) (get ρ 18) (get ρ 19):=zr
@[go_sem] theorem aeq:rc D b HD ρ s=(fun v1 v8 v9 v11 v13 v15 v17 v18 v19=>(aa (eqv false 1 v9 .nilp) fun x0=>some (.normal,[(1,v1),(8,v8),(9,v9),(11,v11),(13,v13),(15,v15),(17,v17),(18,v18),(19,v19),(156,x0)],s):OR)) (get ρ 1) (get ρ 8) (get ρ 9) (get ρ 11) (get ρ 13) (get ρ 15) (get ρ 17) (get ρ 18) (get ρ 19):=zr
@[go_sem] theorem ag3:rc D b KE ρ s= some (.normal,[(6,(.bool false))],s):=zr
@[go_sem] theorem aiO:rc D b Pn ρ s=(fun v1 v8 v9 v11 v13 v15 v17 v18 v19=>(some (.normal,[(1,v1),(8,v8),(9,v9),(11,v11),(13,v13),(15,v15),(17,v17),(18,v18),(19,v19),(24,v13)],s):OR)) (get ρ 1) (get ρ 8) (get ρ 9) (get ρ 11) (get ρ 13) (get ρ 15) (get ρ 17) (get ρ 18) (get ρ 19):=zr
@[go_sem] theorem YY:rc D b Q5 ρ s=(fun v1 v8 v9 v11 v13 v15 v17 v18 v19 v24=>(aa (rf D fL [v13,v9] s) fun x0=>some (.normal,[(1,v1),(8,v8),(9,v9),(11,v11),(13,x0.1),(15,v15),(17,v17),(18,v18),(19,v19),(24,v24)],x0.2):OR)) (get ρ 1) (get ρ 8) (get ρ 9) (get ρ 11) (get ρ 13) (get ρ 15) (get ρ 17) (get ρ 18) (get ρ 19) (get ρ 24):=zr
@[go_sem] theorem adx:rc D b Iu ρ s=(fun v1 v8 v9 v11 v13 v15 v17 v18 v19 v24=>(aa (eqv false 1 v13 .nilp) fun x0=>some (.normal,[(1,v1),(8,v8),(9,v9),(11,v11),(13,v13),(15,v15),(17,v17),(18,v18),(19,v19),(24,v24),(162,x0)],s):OR)) (get ρ 1) (get ρ 8) (get ρ 9) (get ρ 11) (get ρ 13) (get ρ 15) (get ρ 17) (get ρ 18) (get ρ 19) (get ρ 24):=zr
@[go_sem] theorem aej:rc D b I6 ρ s= some (.normal,[(6,(.bool false))],s):=zr
@[go_sem] theorem aib:rc D b Ij ρ s=(fun v1 v8 v9 v11 v13 v15 v17 v18 v19 v24=>(aa (rf D cm [v24,(.int .i64 1)] s) fun x0=>some (.normal,[(1,v1),(8,v8),(9,v9),(11,v11),(13,v13),(15,v15),(17,v17),(18,v18),(19,v19),(24,v24)],x0.2):OR)) (get ρ 1) (get ρ 8) (get ρ 9) (get ρ 11) (get ρ 13) (get ρ 15) (get ρ 17) (get ρ 18) (get ρ 19) (get ρ 24):=zr
@[go_sem] theorem ail:rc D b Kk ρ s=(fun v1 v8 v9 v11 v13 v15 v17 v18 v19 v24=>(aa (rf D bU [v24,(.int .i64 0),(.int .i64 0),(.int .u64 99)] s) fun x0=>some (.normal,[(1,v1),(8,v8),(9,v9),(11,v11),(13,v13),(15,v15),(17,v17),(18,v18),(19,v19),(24,v24)],x0.2):OR)) (get ρ 1) (get ρ 8) (get ρ 9) (get ρ 11) (get ρ 13) (get ρ 15) (get ρ 17) (get ρ 18) (get ρ 19) (get ρ 24):=zr
@[go_sem] theorem adi:rc D b HN ρ s=(fun v1 v8 v9 v11 v13 v15 v17 v18 v19 v24=>(aa (rf D cW [v24] s) fun x0=>some (.normal,[(1,v1),(8,v8),(9,v9),(11,v11),(13,v13),(15,v15),(17,v17),(18,v18),(19,v19)],x0.2):OR)) (get ρ 1) (get ρ 8) (get ρ 9) (get ρ 11) (get ρ 13) (get ρ 15) (get ρ 17) (get ρ 18) (get ρ 19) (get ρ 24):=zr
@[go_sem] theorem aaR:rc D b NR ρ s=(fun v1 v8 v9 v11 v13 v15 v17 v18 v19=>(aa (ldv s 54 v19) fun x0=>aa (rf D fG [v13,v15,x0,v17] s) fun x1=>some (.normal,[(1,v1),(8,v8),(9,v9),(11,v11),(13,v13),(15,v15),(17,v17),(18,v18),(19,v19),(25,x1.1)],x1.2):OR)) (get ρ 1) (get ρ 8) (get ρ 9) (get ρ 11) (get ρ 13) (get ρ 15) (get ρ 17) (get ρ 18) (get ρ 19):=zr
@[go_sem] theorem aec:rc D b KN ρ s=(fun v1 v8 v9 v11 v13 v15 v17 v18 v19 v25=>(aa (ae 54 1 10 v19) fun x0=>aa (ldv s 10 x0) fun x1=>aa (rf D eN [v13,x1] s) fun x2=>aa (aw 0 x2.1) fun x3=>aa (aw 1 x2.1) fun x4=>let x5:V:=.ptr (St.fresh x2.2 false) [] 26; let s5:St:=St.new x2.2 false (.agg 26 [(.int .i64 0),(.int .i64 0),(.agg 24 (List.replicate 8 (.int .u64 0)))]); aa (stv b s5 26 x3 x5) fun s6=>some (.normal,[(1,v1),(8,v8),(9,v9),(11,v11),(13,v13),(15,v15),(17,v17),(18,v18),(19,v19),(25,v25),(26,x5),(27,x4)],s6):OR)) (get ρ 1) (get ρ 8) (get ρ 9) (get ρ 11) (get ρ 13) (get ρ 15) (get ρ 17) (get ρ 18) (get ρ 19) (get ρ 25):=zr
@[go_sem] theorem agx:rc D b If ρ s=(fun v1 v8 v9 v11 v13 v15 v17 v18 v19 v25 v26 v27=>(aa (ae 54 1 10 v19) fun x0=>aa (ldv s 10 x0) fun x1=>aa (rf D dN [v15,x1] s) fun x2=>aa (aw 0 x2.1) fun x3=>aa (aw 1 x2.1) fun x4=>let x5:V:=.ptr (St.fresh x2.2 false) [] 26; let s5:St:=St.new x2.2 false (.agg 26 [(.int .i64 0),(.int .i64 0),(.agg 24 (List.replicate 8 (.int .u64 0)))]); aa (stv b s5 26 x3 x5) fun s6=>some (.normal,[(1,v1),(8,v8),(9,v9),(11,v11),(13,v13),(15,v15),(17,v17),(18,v18),(19,v19),(25,v25),(26,v26),(27,v27),(28,x5),(29,x4)],s6):OR)) (get ρ 1) (get ρ 8) (get ρ 9) (get ρ 11) (get ρ 13) (get ρ 15) (get ρ 17) (get ρ 18) (get ρ 19) (get ρ 25) (get ρ 26) (get ρ 27):=zr
@[go_sem] theorem ZF:rc D b JR ρ s=(fun v1 v8 v9 v11 v13 v15 v17 v18 v19 v25 v26 v27 v28 v29=>(aa (ae 54 3 18 v19) fun x0=>aa (ldv s 18 x0) fun x1=>aa (rf D dR [v13,x1] s) fun x2=>aa (aw 0 x2.1) fun x3=>aa (aw 1 x2.1) fun x4=>some (.normal,[(1,v1),(8,v8),(9,v9),(11,v11),(13,v13),(15,v15),(17,v17),(18,v18),(19,v19),(25,v25),(26,v26),(27,v27),(28,v28),(29,v29),(30,x3),(31,x4)],x2.2):OR)) (get ρ 1) (get ρ 8) (get ρ 9) (get ρ 11) (get ρ 13) (get ρ 15) (get ρ 17) (get ρ 18) (get ρ 19) (get ρ 25) (get ρ 26) (get ρ 27) (get ρ 28) (get ρ 29):=zr
@[go_sem] theorem agn:rc D b Lv ρ s=(fun v1 v8 v9 v11 v13 v15 v17 v18 v19 v25 v26 v27 v28 v29 v30 v31=>(aa (ae 54 3 18 v19) fun x0=>aa (ldv s 18 x0) fun x1=>aa (rf D cY [v15,x1] s) fun x2=>aa (aw 0 x2.1) fun x3=>aa (aw 1 x2.1) fun x4=>some (.normal,[(1,v1),(8,v8),(9,v9),(11,v11),(13,v13),(15,v15),(17,v17),(18,v18),(19,v19),(25,v25),(26,v26),(27,v27),(28,v28),(29,v29),(30,v30),(31,v31),(32,x3),(33,x4)],x2.2):OR)) (get ρ 1) (get ρ 8) (get ρ 9) (get ρ 11) (get ρ 13) (get ρ 15) (get ρ 17) (get ρ 18) (get ρ 19) (get ρ 25) (get ρ 26) (get ρ 27) (get ρ 28) (get ρ 29) (get ρ 30) (get ρ 31):=zr
@[go_sem] theorem ahG:rc D b Pv ρ s=(fun v1 v8 v9 v11 v13 v15 v17 v18 v19 v25 v26 v27 v28 v29 v30 v31 v32 v33=>(aa (ae 54 2 10 v19) fun x0=>aa (ldv s 10 x0) fun x1=>aa (rf D bN [v13,x1] s) fun x2=>aa (aw 0 x2.1) fun x3=>aa (aw 1 x2.1) fun x4=>aa (aw 2 x2.1) fun x5=>some (.normal,[(1,v1),(8,v8),(9,v9),(11,v11),(13,v13),(15,v15),(17,v17),(18,v18),(19,v19),(25,v25),(26,v26),(27,v27),(28,v28),(29,v29),(30,v30),(31,v31),(32,v32),(33,v33),(34,x3),(35,x4),(36,x5)],x2.2):OR)) (get ρ 1) (get ρ 8) (get ρ 9) (get ρ 11) (get ρ 13) (get ρ 15) (get ρ 17) (get ρ 18) (get ρ 19) (get ρ 25) (get ρ 26) (get ρ 27) (get ρ 28) (get ρ 29) (get ρ 30) (get ρ 31) (get ρ 32) (get ρ 33):=zr
@[go_sem] theorem ab1:rc D b Po ρ s=(fun v1 v8 v9 v11 v13 v15 v17 v18 v19 v25 v26 v27 v28 v29 v30 v31 v32 v33 v34 v35 v36=>(aa (ae 54 2 10 v19) fun x0=>aa (ldv s 10 x0) fun x1=>aa (rf D bE [v15,x1] s) fun x2=>aa (aw 0 x2.1) fun x3=>aa (aw 1 x2.1) fun x4=>aa (aw 2 x2.1) fun x5=>some (.normal,[(1,v1),(8,v8),(9,v9),(11,v11),(13,v13),(15,v15),(17,v17),(18,v18),(25,v25),(26,v26),(27,v27),(28,v28),(29,v29),(30,v30),(31,v31),(32,v32),(33,v33),(34,v34),(35,v35),(36,v36),(37,x3),(38,x4),(39,x5)],x2.2):OR)) (get ρ 1) (get ρ 8) (get ρ 9) (get ρ 11) (get ρ 13) (get ρ 15) (get ρ 17) (get ρ 18) (get ρ 19) (get ρ 25) (get ρ 26) (get ρ 27) (get ρ 28) (get ρ 29) (get ρ 30) (get ρ 31) (get ρ 32) (get ρ 33) (get ρ 34) (get ρ 35) (get ρ 36):=zr
@[go_sem] theorem agV:rc D b Kv ρ s=(fun v1 v8 v9 v11 v13 v15 v17 v18 v25 v26 v27 v28 v29 v30 v31 v32 v33 v34 v35 v36 v37 v38 v39=>(aa (rf D fN [v13,v15] s) fun x0=>some (.normal,[(1,v1),(8,v8),(9,v9),(11,v11),(13,v13),(15,v15),(17,v17),(18,v18),(25,v25),(26,v26),(27,v27),(28,v28),(29,v29),(30,v30),(31,v31),(32,v32),(33,v33),(34,v34),(35,v35),(36,v36),(37,v37),(38,v38),(39,v39),(40,x0.1)],x0.2):OR)) (get ρ 1) (get ρ 8) (get ρ 9) (get ρ 11) (get ρ 13) (get ρ 15) (get ρ 17) (get ρ 18) (get ρ 25) (get ρ 26) (get ρ 27) (get ρ 28) (get ρ 29) (get ρ 30) (get ρ 31) (get ρ 32) (get ρ 33) (get ρ 34) (get ρ 35) (get ρ 36) (get ρ 37) (get ρ 38) (get ρ 39):=zr
@[go_sem] theorem afm:rc D b JQ ρ s=(fun v1 v8 v9 v11 v13 v15 v17 v18 v25 v26 v27 v28 v29 v30 v31 v32 v33 v34 v35 v36 v37 v38 v39 v40=>(aa (vun .not v25) fun x0=>al x0 false (aa (vun .not v40) fun x1=>al x1 false (aa (ldv s 26 v26) fun x2=>aa (ldv s 26 v28) fun x3=>aa (eqv true 26 x2 x3) fun x4=>al x4 false (aa (ac .neq v27 v29) fun x5=>al x5 false (aa (ac .neq v30 v32) fun x6=>al x6 false (aa (ac .neq v31 v33) fun x7=>al x7 false (aa (ac .neq v34 v37) fun x8=>al x8 false (aa (ac .neq v35 v38) fun x9=>al x9 false (aa (ac .neq v36 v39) fun x10=>al x10 false (aa (dk D (aV b [v9]) b gW [v9] s) fun x11=>aa (ag v11) fun x12=>aa (ae 33 4 10 x12) fun x13=>aa (ldv s 10 x13) fun x14=>aa (ac .neq x11 x14) fun x15=>some (.normal,[(1,v1),(8,v8),(9,v9),(11,v11),(13,v13),(15,v15),(17,v17),(18,v18),(270,x15)],s)) (some (.normal,[(1,v1),(8,v8),(9,v9),(11,v11),(13,v13),(15,v15),(17,v17),(18,v18),(270,(.bool true))],s)) (none)) (some (.normal,[(1,v1),(8,v8),(9,v9),(11,v11),(13,v13),(15,v15),(17,v17),(18,v18),(270,(.bool true))],s)) (none)) (some (.normal,[(1,v1),(8,v8),(9,v9),(11,v11),(13,v13),(15,v15),(17,v17),(18,v18),(270,(.bool true))],s)) (none)) (some (.normal,[(1,v1),(8,v8),(9,v9),(11,v11),(13,v13),(15,v15),(17,v17),(18,v18),(270,(.bool true))],s)) (none)) (some (.normal,[(1,v1),(8,v8),(9,v9),(11,v11),(13,v13),(15,v15),(17,v17),(18,v18),(270,(.bool true))],s)) (none)) (some (.normal,[(1,v1),(8,v8),(9,v9),(11,v11),(13,v13),(15,v15),(17,v17),(18,v18),(270,(.bool true))],s)) (none)) (some (.normal,[(1,v1),(8,v8),(9,v9),(11,v11),(13,v13),(15,v15),(17,v17),(18,v18),(270,(.bool true))],s)) (none)) (some (.normal,[(1,v1),(8,v8),(9,v9),(11,v11),(13,v13),(15,v15),(17,v17),(18,v18),(270,(.bool true))],s)) (none)) (some (.normal,[(1,v1),(8,v8),(9,v9),(11,v11),(13,v13),(15,v15),(17,v17),(18,v18),(270,(.bool true))],s)) (none):OR)) (get ρ 1) (get ρ 8) (get ρ 9) (get ρ 11) (get ρ 13) (get ρ 15) (get ρ 17) (get ρ 18) (get ρ 25) (get ρ 26) (get ρ 27) (get ρ 28) (get ρ 29) (get ρ 30) (get ρ 31) (get ρ 32) (get ρ 33) (get ρ 34) (get ρ 35) (get ρ 36) (get ρ 37) (get ρ 38) (get ρ 39) (get ρ 40):=zd
@[go_sem] theorem aeA:rc D b M9 ρ s= some (.normal,[(6,(.bool false))],s):=zr
@[go_sem] theorem ahY:rc D b HT ρ s=(fun v1 v8 v9 v11 v13 v15 v17 v18=>(aa (ac .add v18 (.int .i64 1)) fun x0=>some (.normal,[(1,v1),(8,v8),(9,v9),(11,v11),(13,v13),(15,v15),(17,v17),(18,x0)],s):OR)) (get ρ 1) (get ρ 8) (get ρ 9) (get ρ 11) (get ρ 13) (get ρ 15) (get ρ 17) (get ρ 18):=zr
@[go_sem] theorem aiZ:rc D b Oq ρ s=(fun v8 v9 v11=>(some (.normal,[(8,v8),(9,v9),(11,v11),(41,(.int .i64 0))],s):OR)) (get ρ 8) (get ρ 9) (get ρ 11):=zr
@[go_sem] theorem aiC:rc D b K3 ρ s=(fun v8 v9 v11 v41=>(aa (ac .lss v41 v8) fun x0=>some (.normal,[(8,v8),(9,v9),(11,v11),(41,v41),(273,x0)],s):OR)) (get ρ 8) (get ρ 9) (get ρ 11) (get ρ 41):=zr
@[go_sem] theorem ai0:rc D b Lj ρ s=(fun v8 v9 v11 v41=>(aa (rf D cA [v9,v41] s) fun x0=>aa (aw 0 x0.1) fun x1=>aa (aw 1 x0.1) fun x2=>let x3:V:=.ptr (St.fresh x0.2 false) [] 24; let s3:St:=St.new x0.2 false (.agg 24 (List.replicate 8 (.int .u64 0))); aa (stv b s3 24 x1 x3) fun s4=>some (.normal,[(8,v8),(9,v9),(11,v11),(41,v41),(42,x3),(43,x2)],s4):OR)) (get ρ 8) (get ρ 9) (get ρ 11) (get ρ 41):=zr
@[go_sem] theorem ahJ:rc D b Rk ρ s=(fun v8 v9 v11 v41 v42 v43=>(aa (rf D aW [v11,v41] s) fun x0=>aa (aw 0 x0.1) fun x1=>aa (aw 1 x0.1) fun x2=>let x3:V:=.ptr (St.fresh x0.2 false) [] 24; let s3:St:=St.new x0.2 false (.agg 24 (List.replicate 8 (.int .u64 0))); aa (stv b s3 24 x1 x3) fun s4=>some (.normal,[(8,v8),(9,v9),(11,v11),(41,v41),(42,v42),(43,v43),(44,x3),(45,x2)],s4):OR)) (get ρ 8) (get ρ 9) (get ρ 11) (get ρ 41) (get ρ 42) (get ρ 43):=zr
@[go_sem] theorem ah3:rc D b Hq ρ s=(fun v8 v9 v11 v41 v42 v43 v44 v45=>(aa (ldv s 24 v42) fun x0=>aa (ldv s 24 v44) fun x1=>aa (eqv true 24 x0 x1) fun x2=>al x2 false (aa (ac .neq v43 v45) fun x3=>some (.normal,[(8,v8),(9,v9),(11,v11),(41,v41),(295,x3)],s)) (some (.normal,[(8,v8),(9,v9),(11,v11),(41,v41),(295,(.bool true))],s)) (none):OR)) (get ρ 8) (get ρ 9) (get ρ 11) (get ρ 41) (get ρ 42) (get ρ 43) (get ρ 44) (get ρ 45):=zr
@[go_sem] theorem aes:rc D b Jb ρ s= some (.normal,[(6,(.bool false))],s):=zr
@[go_sem] theorem Zi:rc D b QP ρ s=(fun v8 v9 v11 v41=>(aa (ac .add v41 (.int .i64 1)) fun x0=>some (.normal,[(8,v8),(9,v9),(11,v11),(41,x0)],s):OR)) (get ρ 8) (get ρ 9) (get ρ 11) (get ρ 41):=zr
@[go_sem] theorem aeM:rc D b ME ρ s= some (.normal,[(6,(.bool true))],s):=zr
@[go_sem] theorem ajv:rc D b UG ρ s=(fun v0 v1=>(some (.normal,[(0,v0),(1,v1)],s):OR)) (get ρ 0) (get ρ 1):=zr
@[go_sem] theorem ajh:rc D b Vj ρ s=(fun v0 v1=>(aa (ac .lss v0 (.int .i64 0)) fun x0=>some (.normal,[(0,v0),(1,v1),(6,x0)],s):OR)) (get ρ 0) (get ρ 1):=zr
@[go_sem] theorem ajb:rc D b UB ρ s=(fun v0 v1=>(aa (ac .add v0 (.int .i64 1)) fun x0=>aa (vun .neg x0) fun x1=>some (.normal,[(0,x1),(1,v1)],s):OR)) (get ρ 0) (get ρ 1):=zr
@[go_sem] theorem aje:rc D b Vg ρ s=(fun v0 v1=>(aa (ac .rem v0 v1) fun x0=>some (.normal,[(4,x0)],s):OR)) (get ρ 0) (get ρ 1):=zr
@[go_sem] theorem ajn:rc D b UI ρ s=(fun v0=>(some (.normal,[(0,v0)],s):OR)) (get ρ 0):=zr
@[go_sem] theorem ajw:rc D b Uh ρ s=(fun v0=>(aa (ac .lss v0 (.int .i64 64)) fun x0=>al x0 false (aa (ac .gtr v0 (.int .i64 1024)) fun x1=>some (.normal,[(0,v0),(9,x1)],s)) (some (.normal,[(0,v0),(9,(.bool true))],s)) (none):OR)) (get ρ 0):=zr
@[go_sem] theorem ajm:rc D b Vz ρ s= some (.normal,[(2,.nilp),(3,(.int .i64 1))],s):=zr
@[go_sem] theorem ajz:rc D b U8 ρ s=(fun v0=>(aa (qH true 57 55 (.agg 55 [(.agg 24 (List.replicate 8 (.int .u64 0))),(.agg 24 (List.replicate 8 (.int .u64 0))),.nils,(.agg 50 (List.replicate 8 (.int .i64 0)))]) s v0 v0) fun x0=>aa (am [.nils,(.bool false),(.bool false),(.int .i64 0),(.int .i64 0)] [(0,x0.1)]) fun x1=>if V.ok (.agg 59 x1) && ay true (.agg 59 x1) then let x2:V:=.ptr (St.fresh x0.2 true) [] (V.tag (.agg 59 x1)); let s2:St:=St.new x0.2 true (.agg 59 x1); some (.normal,[(2,x2),(3,(.int .i64 0))],s2) else none:OR)) (get ρ 0):=zr
@[go_sem] theorem ajq:rc D b Vl ρ s=(fun v0=>(some (.normal,[(0,v0)],s):OR)) (get ρ 0):=zr
@[go_sem] theorem ajk:rc D b Vy ρ s=(fun v0=>(aa (ac .lss v0 (.int .i64 64)) fun x0=>al x0 false (aa (ac .gtr v0 (.int .i64 1024)) fun x1=>some (.normal,[(0,v0),(9,x1)],s)) (some (.normal,[(0,v0),(9,(.bool true))],s)) (none):OR)) (get ρ 0):=zr
@[go_sem] theorem ajx:rc D b Va ρ s= some (.normal,[(2,.nilp),(3,(.int .i64 1))],s):=zr
@[go_sem] theorem ai9:rc D b VC ρ s=(fun v0=>(aa (qH false 58 24 (.agg 24 (List.replicate 8 (.int .u64 0))) s v0 v0) fun x0=>aa (rf D gp [x0.1] x0.2) fun x1=>aa (aw 0 x1.1) fun x2=>aa (aw 1 x1.1) fun x3=>some (.normal,[(2,x2),(3,x3)],x1.2):OR)) (get ρ 0):=zr
@[go_sem] theorem ai7:rc D b Vr ρ s=(fun v0 v1 v2 v3=>(if V.ok v2 && ay false v2 then let x0:V:=.ptr (St.fresh s false) [] (V.tag v2); let s0:St:=St.new s false v2; if V.ok v3 && ay false v3 then let x1:V:=.ptr (St.fresh s0 false) [] (V.tag v3); let s1:St:=St.new s0 false v3; some (.normal,[(0,v0),(1,v1),(6,x0),(7,x1)],s1) else none else none:OR)) (get ρ 0) (get ρ 1) (get ρ 2) (get ρ 3):=zr
@[go_sem] theorem ajE:rc D b Ur ρ s=(fun v0 v1 v6 v7=>(aa (rf D cj [v0] s) fun x0=>aa (rf D iQ [v1,x0.1] x0.2) fun x1=>aa (aw 0 x1.1) fun x2=>aa (aw 1 x1.1) fun x3=>some (.normal,[(0,v0),(6,v6),(7,v7),(10,x2),(11,x3)],x1.2):OR)) (get ρ 0) (get ρ 1) (get ρ 6) (get ρ 7):=zr
@[go_sem] theorem ajo:rc D b UF ρ s=(fun v0 v6 v7 v10 v11=>(aa (ac .neq v11 (.int .i64 0)) fun x0=>some (.normal,[(0,v0),(6,v6),(7,v7),(10,v10),(11,v11),(25,x0)],s):OR)) (get ρ 0) (get ρ 6) (get ρ 7) (get ρ 10) (get ρ 11):=zr
@[go_sem] theorem ajA:rc D b UJ ρ s=(fun v11=>(some (.normal,[(8,.nilp),(9,v11)],s):OR)) (get ρ 11):=zr
@[go_sem] theorem ajg:rc D b UH ρ s=(fun v0 v6 v7 v10=>(aa (ldv s 48 v6) fun x0=>aa (ldv s 48 v6) fun x1=>aa (ldv s 50 v7) fun x2=>aa (am [.nilp,.nilp,(.agg 48 (List.replicate 49 (.agg 42 [(.int .i64 0),(.int .i64 0),(.int .i64 0)]))),(.agg 48 (List.replicate 49 (.agg 42 [(.int .i64 0),(.int .i64 0),(.int .i64 0)]))),(.agg 50 (List.replicate 8 (.int .i64 0))),(.agg 48 (List.replicate 49 (.agg 42 [(.int .i64 0),(.int .i64 0),(.int .i64 0)]))),(.bool false),(.agg 82 (List.replicate 1024 (.bool false)))] [(0,v0),(1,v10),(2,x0),(3,x1),(4,x2)]) fun x3=>if V.ok (.agg 43 x3) && ay true (.agg 43 x3) then let x4:V:=.ptr (St.fresh s true) [] (V.tag (.agg 43 x3)); let s4:St:=St.new s true (.agg 43 x3); some (.normal,[(6,v6),(7,v7),(10,v10),(12,x4)],s4) else none:OR)) (get ρ 0) (get ρ 6) (get ρ 7) (get ρ 10):=zr
@[go_sem] theorem ai4:rc D b VA ρ s=(fun v6 v7 v10 v12=>(aa (ldv s 48 v6) fun x0=>some (.normal,[(7,v7),(10,v10),(12,v12),(34,x0),(35,(.int .i64 0))],s):OR)) (get ρ 6) (get ρ 7) (get ρ 10) (get ρ 12):=zr
@[go_sem] theorem ai5:rc D b UR ρ s=(fun v7 v10 v12 v34 v35=>(aa (ac .lss v35 (.int .i64 49)) fun x0=>some (.normal,[(7,v7),(10,v10),(12,v12),(34,v34),(35,v35),(36,x0)],s):OR)) (get ρ 7) (get ρ 10) (get ρ 12) (get ρ 34) (get ρ 35):=zr
@[go_sem] theorem ajC:rc D b VL ρ s=(fun v7 v10 v12 v34 v35=>(aa (lJ 48 49 v34 v35) fun x0=>let x1:V:=.ptr (St.fresh s false) [] 42; let s1:St:=St.new s false (.agg 42 [(.int .i64 0),(.int .i64 0),(.int .i64 0)]); aa (stv b s1 42 x0 x1) fun s2=>some (.normal,[(7,v7),(10,v10),(12,v12),(14,x1),(34,v34),(35,v35)],s2):OR)) (get ρ 7) (get ρ 10) (get ρ 12) (get ρ 34) (get ρ 35):=zr
@[go_sem] theorem ajy:rc D b VE ρ s=(fun v7 v10 v12 v14 v34 v35=>(aa (ae 42 0 10 v14) fun x0=>aa (ldv s 10 x0) fun x1=>aa (ac .neq x1 (.int .i64 0)) fun x2=>al x2 true (aa (ae 42 2 10 v14) fun x3=>aa (ldv s 10 x3) fun x4=>aa (rf D cl [v10,x4] s) fun x5=>aa (ac .neq x5.1 (.int .i64 0)) fun x6=>some (.normal,[(7,v7),(10,v10),(12,v12),(34,v34),(35,v35),(47,x6)],x5.2)) (some (.normal,[(7,v7),(10,v10),(12,v12),(34,v34),(35,v35),(47,(.bool false))],s)) (none):OR)) (get ρ 7) (get ρ 10) (get ρ 12) (get ρ 14) (get ρ 34) (get ρ 35):=zr
@[go_sem] theorem ajF:rc D b UZ ρ s= some (.normal,[(8,.nilp),(9,(.int .i64 21))],s):=zr
@[go_sem] theorem abs:rc D b Om ρ s=(fun v7 v10 v12 v34 v35=>(aa (ac .add v35 (.int .i64 1)) fun x0=>some (.normal,[(7,v7),(10,v10),(12,v12),(34,v34),(35,x0)],s):OR)) (get ρ 7) (get ρ 10) (get ρ 12) (get ρ 34) (get ρ 35):=zr
@[go_sem] theorem adE:rc D b Ik ρ s=(fun v7 v10 v12=>(aa (ldv s 50 v7) fun x0=>some (.normal,[(10,v10),(12,v12),(49,x0),(50,(.int .i64 0))],s):OR)) (get ρ 7) (get ρ 10) (get ρ 12):=zr
@[go_sem] theorem Zd:rc D b RG ρ s=(fun v10 v12 v49 v50=>(aa (ac .lss v50 (.int .i64 8)) fun x0=>some (.normal,[(10,v10),(12,v12),(49,v49),(50,v50),(51,x0)],s):OR)) (get ρ 10) (get ρ 12) (get ρ 49) (get ρ 50):=zr
@[go_sem] theorem ZP:rc D b Ou ρ s=(fun v10 v12 v49 v50=>(aa (lJ 50 8 v49 v50) fun x0=>some (.normal,[(10,v10),(12,v12),(16,x0),(49,v49),(50,v50)],s):OR)) (get ρ 10) (get ρ 12) (get ρ 49) (get ρ 50):=zr
@[go_sem] theorem adL:rc D b M6 ρ s=(fun v10 v12 v16 v49 v50=>(aa (rf D cl [v10,v16] s) fun x0=>aa (ac .neq x0.1 (.int .i64 0)) fun x1=>some (.normal,[(10,v10),(12,v12),(49,v49),(50,v50),(56,x1)],x0.2):OR)) (get ρ 10) (get ρ 12) (get ρ 16) (get ρ 49) (get ρ 50):=zr
@[go_sem] theorem afU:rc D b PR ρ s= some (.normal,[(8,.nilp),(9,(.int .i64 21))],s):=zr
@[go_sem] theorem acx:rc D b KC ρ s=(fun v10 v12 v49 v50=>(aa (ac .add v50 (.int .i64 1)) fun x0=>some (.normal,[(10,v10),(12,v12),(49,v49),(50,x0)],s):OR)) (get ρ 10) (get ρ 12) (get ρ 49) (get ρ 50):=zr
@[go_sem] theorem ahn:rc D b HS ρ s=(fun v12=>(aa (rf D bB [v12] s) fun x0=>some (.normal,[(12,v12)],x0.2):OR)) (get ρ 12):=zr
@[go_sem] theorem agD:rc D b Mx ρ s=(fun v12=>(some (.normal,[(8,v12),(9,(.int .i64 0))],s):OR)) (get ρ 12):=zr
@[go_sem] theorem ajc:rc D b Vf ρ s=(fun v0=>(let x0:V:=.ptr (St.fresh s false) [] 48; let s0:St:=St.new s false (.agg 48 (List.replicate 49 (.agg 42 [(.int .i64 0),(.int .i64 0),(.int .i64 0)]))); some (.normal,[(0,v0),(2,x0)],s0):OR)) (get ρ 0):=zr
@[go_sem] theorem ai3:rc D b UO ρ s=(fun v0 v2=>(aa (am (List.replicate 49 (.agg 42 [(.int .i64 0),(.int .i64 0),(.int .i64 0)])) []) fun x0=>let x1:V:=.ptr (St.fresh s false) [] 48; let s1:St:=St.new s false (.agg 48 (List.replicate 49 (.agg 42 [(.int .i64 0),(.int .i64 0),(.int .i64 0)]))); aa (stv b s1 48 (.agg 48 x0) x1) fun s2=>some (.normal,[(0,v0),(2,v2),(3,x1)],s2):OR)) (get ρ 0) (get ρ 2):=zr
@[go_sem] theorem ajB:rc D b UV ρ s=(fun v0 v2 v3=>(some (.normal,[(0,v0),(2,v2),(3,v3),(4,(.int .i64 0))],s):OR)) (get ρ 0) (get ρ 2) (get ρ 3):=zr
@[go_sem] theorem aja:rc D b UL ρ s=(fun v0 v2 v3 v4=>(aa (ac .lss v4 v0) fun x0=>al x0 true (aa (ac .lss v4 (.int .i64 49)) fun x1=>some (.normal,[(0,v0),(2,v2),(3,v3),(4,v4),(12,x1)],s)) (some (.normal,[(0,v0),(2,v2),(3,v3),(4,v4),(12,(.bool false))],s)) (none):OR)) (get ρ 0) (get ρ 2) (get ρ 3) (get ρ 4):=zr
@[go_sem] theorem ai6:rc D b U9 ρ s=(fun v0 v2 v3 v4=>(aa (ac .rem v4 (.int .i64 4)) fun x0=>aa (ac .add (.int .i64 1) x0) fun x1=>aa (ac .add (.int .i64 20) v4) fun x2=>aa (am [(.int .i64 0),(.int .i64 0),(.int .i64 0)] [(0,x1),(1,v4),(2,x2)]) fun x3=>aa (bb 48 49 42 v3 v4) fun x4=>aa (stv b s 42 (.agg 42 x3) x4) fun s5=>some (.normal,[(0,v0),(2,v2),(3,v3),(4,v4)],s5):OR)) (get ρ 0) (get ρ 2) (get ρ 3) (get ρ 4):=zr
@[go_sem] theorem aji:rc D b Uy ρ s=(fun v0 v2 v3 v4=>(aa (ac .add v4 (.int .i64 1)) fun x0=>some (.normal,[(0,v0),(2,v2),(3,v3),(4,x0)],s):OR)) (get ρ 0) (get ρ 2) (get ρ 3) (get ρ 4):=zr
@[go_sem] theorem aju:rc D b Vv ρ s=(fun v2 v3=>(aa (ldv s 48 v3) fun x0=>aa (stv b s 48 x0 v2) fun s1=>some (.normal,[(2,v2)],s1):OR)) (get ρ 2) (get ρ 3):=zr
@[go_sem] theorem aiR:rc D b QM ρ s=(fun v0 v1 v2 v3=>(if V.ok v2 && ay false v2 then let x0:V:=.ptr (St.fresh s false) [] (V.tag v2); let s0:St:=St.new s false v2; if V.ok v3 && ay false v3 then let x1:V:=.ptr (St.fresh s0 false) [] (V.tag v3); let s1:St:=St.new s0 false v3; some (.normal,[(0,v0),(1,v1),(6,x0),(7,x1)],s1) else none else none:OR)) (get ρ 0) (get ρ 1) (get ρ 2) (get ρ 3):=zr
@[go_sem] theorem ab8:rc D b NT ρ s=(fun v0 v1 v6 v7=>(aa (ag v0) fun x0=>aa (ae 33 0 1 x0) fun x1=>aa (ldv s 1 x1) fun x2=>aa (V.slen false x2) fun x3=>aa (rf D d9 [v1,(.int .i64 x3)] s) fun x4=>aa (aw 0 x4.1) fun x5=>aa (aw 1 x4.1) fun x6=>some (.normal,[(0,v0),(6,v6),(7,v7),(10,x5),(11,x6)],x4.2):OR)) (get ρ 0) (get ρ 1) (get ρ 6) (get ρ 7):=zr
@[go_sem] theorem abn:rc D b Qa ρ s=(fun v0 v6 v7 v10 v11=>(aa (ac .neq v11 (.int .i64 0)) fun x0=>some (.normal,[(0,v0),(6,v6),(7,v7),(10,v10),(25,x0)],s):OR)) (get ρ 0) (get ρ 6) (get ρ 7) (get ρ 10) (get ρ 11):=zr
@[go_sem] theorem aaQ:rc D b Hs ρ s= some (.normal,[(8,.nilp),(9,(.int .i64 1))],s):=zr
@[go_sem] theorem aaG:rc D b Hv ρ s=(fun v0 v6 v7 v10=>(aa (ldv s 48 v6) fun x0=>aa (rq D [x0] s v7 (.fn aK [])) fun x1=>aa (ph x1.2 50 8 10 none none none v7) fun x2=>aa (aA b false 38 10 x1.1 x2 x1.2) fun x3=>some (.normal,[(0,v0),(6,v6),(7,v7),(10,v10),(12,x3.1)],x3.2):OR)) (get ρ 0) (get ρ 6) (get ρ 7) (get ρ 10):=zd
@[go_sem] theorem age:rc D b Ka ρ s=(fun v0 v6 v7 v10 v12=>(some (.normal,[(0,v0),(6,v6),(7,v7),(10,v10),(12,v12),(13,(.int .i64 0))],s):OR)) (get ρ 0) (get ρ 6) (get ρ 7) (get ρ 10) (get ρ 12):=zr
@[go_sem] theorem adN:rc D b Qw ρ s=(fun v0 v6 v7 v10 v12 v13=>(aa (V.slen false v12) fun x0=>aa (ac .lss v13 (.int .i64 x0)) fun x1=>some (.normal,[(0,v0),(6,v6),(7,v7),(10,v10),(12,v12),(13,v13),(33,x1)],s):OR)) (get ρ 0) (get ρ 6) (get ρ 7) (get ρ 10) (get ρ 12) (get ρ 13):=zr
@[go_sem] theorem agH:rc D b MS ρ s=(fun v0 v6 v7 v10 v12 v13=>(aa (co 10 v12 v13) fun x0=>aa (ldv s 10 x0) fun x1=>aa (rf D br [v10,x1] s) fun x2=>aa (ac .neq x2.1 (.int .i64 0)) fun x3=>some (.normal,[(0,v0),(6,v6),(7,v7),(10,v10),(12,v12),(13,v13),(42,x3)],x2.2):OR)) (get ρ 0) (get ρ 6) (get ρ 7) (get ρ 10) (get ρ 12) (get ρ 13):=zr
@[go_sem] theorem Zh:rc D b Mg ρ s= some (.normal,[(8,.nilp),(9,(.int .i64 21))],s):=zr
@[go_sem] theorem ae4:rc D b Qk ρ s=(fun v0 v6 v7 v10 v12 v13=>(aa (ac .add v13 (.int .i64 1)) fun x0=>some (.normal,[(0,v0),(6,v6),(7,v7),(10,v10),(12,v12),(13,x0)],s):OR)) (get ρ 0) (get ρ 6) (get ρ 7) (get ρ 10) (get ρ 12) (get ρ 13):=zr
@[go_sem] theorem XV:rc D b CP ρ s=(fun v0 v6 v7 v10=>(aa (ldv s 48 v6) fun x0=>aa (ldv s 48 v6) fun x1=>aa (ldv s 50 v7) fun x2=>aa (am [.nilp,.nilp,(.agg 48 (List.replicate 49 (.agg 42 [(.int .i64 0),(.int .i64 0),(.int .i64 0)]))),(.agg 48 (List.replicate 49 (.agg 42 [(.int .i64 0),(.int .i64 0),(.int .i64 0)]))),(.agg 50 (List.replicate 8 (.int .i64 0))),(.agg 48 (List.replicate 49 (.agg 42 [(.int .i64 0),(.int .i64 0),(.int .i64 0)]))),(.bool false)] [(0,v0),(1,v10),(2,x0),(3,x1),(4,x2)]) fun x3=>if V.ok (.agg 31 x3) && ay true (.agg 31 x3) then let x4:V:=.ptr (St.fresh s true) [] (V.tag (.agg 31 x3)); let s4:St:=St.new s true (.agg 31 x3); some (.normal,[(8,x4),(9,(.int .i64 0))],s4) else none:OR)) (get ρ 0) (get ρ 6) (get ρ 7) (get ρ 10):=zr
@[go_sem] theorem adD:rc D b Og ρ s=(fun v0 v1=>(aa (ac .geq v1 (.int .i64 0)) fun x0=>aa (ag v0) fun x1=>aa (ae 59 2 0 x1) fun x2=>aa (stv b s 0 x0 x2) fun s3=>aa (ag v0) fun x4=>aa (ae 59 3 10 x4) fun x5=>aa (stv b s3 10 v1 x5) fun s6=>some (.normal,[],s6):OR)) (get ρ 0) (get ρ 1):=zr
@[go_sem] theorem ah6:rc D b Iw ρ s=(fun v0 v1=>(aa (jN true v1 (.int .i64 (-1))) fun x0=>aa (ag v0) fun x1=>aa (ae 33 3 10 x1) fun x2=>aa (stv b s 10 x0 x2) fun s3=>some (.normal,[],s3):OR)) (get ρ 0) (get ρ 1):=zr
@[go_sem] theorem ahO:rc D b Nc ρ s=(fun v0=>(some (.normal,[(0,v0)],s):OR)) (get ρ 0):=zr
@[go_sem] theorem ah9:rc D b Km ρ s=(fun v0=>(aa (ag v0) fun x0=>aa (ae 43 1 1 x0) fun x1=>aa (ldv s 1 x1) fun x2=>aa (rf D bD [x2] s) fun x3=>aa (aw 0 x3.1) fun x4=>aa (aw 1 x3.1) fun x5=>some (.normal,[(2,x4),(3,x5)],x3.2):OR)) (get ρ 0):=zr
@[go_sem] theorem agm:rc D b Od ρ s=(fun v0=>(some (.normal,[(0,v0)],s):OR)) (get ρ 0):=zr
@[go_sem] theorem acf:rc D b KO ρ s=(fun v0=>(some (.normal,[(0,v0),(4,(.int .i64 0))],s):OR)) (get ρ 0):=zr
@[go_sem] theorem Zx:rc D b LO ρ s=(fun v0 v4=>(aa (ag v0) fun x0=>aa (ae 21 1 1 x0) fun x1=>aa (ldv s 1 x1) fun x2=>aa (V.slen false x2) fun x3=>aa (ac .lss v4 (.int .i64 x3)) fun x4=>some (.normal,[(0,v0),(4,v4),(11,x4)],s):OR)) (get ρ 0) (get ρ 4):=zr
@[go_sem] theorem aac:rc D b Jp ρ s=(fun v0 v4=>(aa (ag v0) fun x0=>aa (ae 21 1 1 x0) fun x1=>aa (ldv s 1 x1) fun x2=>aa (co 10 x2 v4) fun x3=>aa (ldv s 10 x3) fun x4=>aa (ac .eql x4 (.int .i64 0)) fun x5=>some (.normal,[(0,v0),(4,v4),(21,x5)],s):OR)) (get ρ 0) (get ρ 4):=zr
@[go_sem] theorem agP:rc D b Sd ρ s=(fun v0 v4=>(aa (ag v0) fun x0=>aa (ae 21 1 1 x0) fun x1=>aa (ldv s 1 x1) fun x2=>aa (co 10 x2 v4) fun x3=>aa (stv b s 10 (.int .i64 1) x3) fun s4=>some (.normal,[(0,v0),(4,v4)],s4):OR)) (get ρ 0) (get ρ 4):=zr
@[go_sem] theorem ada:rc D b JU ρ s=(fun v0 v4=>(aa (ag v0) fun x0=>aa (ae 21 0 10 x0) fun x1=>aa (ldv s 10 x1) fun x2=>aa (ac .add x2 v4) fun x3=>some (.normal,[(2,x3),(3,(.int .i64 0))],s):OR)) (get ρ 0) (get ρ 4):=zr
@[go_sem] theorem adF:rc D b My ρ s=(fun v0 v4=>(aa (ac .add v4 (.int .i64 1)) fun x0=>some (.normal,[(0,v0),(4,x0)],s):OR)) (get ρ 0) (get ρ 4):=zr
@[go_sem] theorem adc:rc D b RW ρ s= some (.normal,[(2,(.int .i64 0)),(3,(.int .i64 10))],s):=zr
@[go_sem] theorem agz:rc D b HQ ρ s=(fun v0=>(some (.normal,[(0,v0)],s):OR)) (get ρ 0):=zr
@[go_sem] theorem ZZ:rc D b RK ρ s=(fun v0=>(aa (ag v0) fun x0=>aa (ldv s 59 x0) fun x1=>let x2:V:=.ptr (St.fresh s true) [] 59; let s2:St:=St.new s true (.agg 59 [.nils,(.bool false),(.bool false),(.int .i64 0),(.int .i64 0)]); aa (stv b s2 59 x1 x2) fun s3=>some (.normal,[(0,v0),(3,x2)],s3):OR)) (get ρ 0):=zr
@[go_sem] theorem aar:rc D b Q3 ρ s=(fun v0 v3=>(aa (ag v0) fun x0=>aa (ae 59 0 1 x0) fun x1=>aa (ldv s 1 x1) fun x2=>aa (rf D eL [x2] s) fun x3=>aa (ae 59 0 1 v3) fun x4=>aa (stv b x3.2 1 x3.1 x4) fun s5=>some (.normal,[(0,v0),(3,v3)],s5):OR)) (get ρ 0) (get ρ 3):=zr
@[go_sem] theorem afQ:rc D b Kc ρ s=(fun v0 v3=>(aa (ae 59 0 1 v3) fun x0=>aa (ldv s 1 x0) fun x1=>aa (V.slen false x1) fun x2=>some (.normal,[(0,v0),(3,v3),(16,(.int .i64 x2)),(17,(.int .i64 0))],s):OR)) (get ρ 0) (get ρ 3):=zr
@[go_sem] theorem aiL:rc D b P5 ρ s=(fun v0 v3 v16 v17=>(aa (ac .lss v17 v16) fun x0=>some (.normal,[(0,v0),(3,v3),(16,v16),(17,v17),(18,x0)],s):OR)) (get ρ 0) (get ρ 3) (get ρ 16) (get ρ 17):=zr
@[go_sem] theorem agh:rc D b Ir ρ s=(fun v0 v3 v16 v17=>(some (.normal,[(0,v0),(3,v3),(4,v17),(16,v16),(17,v17)],s):OR)) (get ρ 0) (get ρ 3) (get ρ 16) (get ρ 17):=zr
@[go_sem] theorem ahs:rc D b OX ρ s=(fun v0 v3 v4 v16 v17=>(aa (ae 59 0 1 v3) fun x0=>aa (ldv s 1 x0) fun x1=>aa (ag v0) fun x2=>aa (ae 59 0 1 x2) fun x3=>aa (ldv s 1 x3) fun x4=>aa (co 55 x4 v4) fun x5=>aa (ae 55 2 1 x5) fun x6=>aa (ldv s 1 x6) fun x7=>aa (k8 D true (aV b [x7]) b em [x7] s) fun x8=>aa (co 55 x1 v4) fun x9=>aa (ae 55 2 1 x9) fun x10=>aa (stv b x8.2 1 x8.1 x10) fun s11=>some (.normal,[(0,v0),(3,v3),(16,v16),(17,v17)],s11):OR)) (get ρ 0) (get ρ 3) (get ρ 4) (get ρ 16) (get ρ 17):=zd
@[go_sem] theorem agj:rc D b NG ρ s=(fun v0 v3 v16 v17=>(aa (ac .add v17 (.int .i64 1)) fun x0=>some (.normal,[(0,v0),(3,v3),(16,v16),(17,x0)],s):OR)) (get ρ 0) (get ρ 3) (get ρ 16) (get ρ 17):=zr
@[go_sem] theorem ai2:rc D b PV ρ s=(fun v3=>(some (.normal,[(2,v3)],s):OR)) (get ρ 3):=zr
@[go_sem] theorem abC:rc D b Ib ρ s=(fun v0 v1=>(some (.normal,[(0,v0),(1,v1)],s):OR)) (get ρ 0) (get ρ 1):=zr
@[go_sem] theorem aic:rc D b QA ρ s=(fun v0 v1=>(aa (ag v0) fun x0=>aa (ldv s 43 x0) fun x1=>let x2:V:=.ptr (St.fresh s true) [] 43; let s2:St:=St.new s true (.agg 43 [.nilp,.nilp,(.agg 48 (List.replicate 49 (.agg 42 [(.int .i64 0),(.int .i64 0),(.int .i64 0)]))),(.agg 48 (List.replicate 49 (.agg 42 [(.int .i64 0),(.int .i64 0),(.int .i64 0)]))),(.agg 50 (List.replicate 8 (.int .i64 0))),(.agg 48 (List.replicate 49 (.agg 42 [(.int .i64 0),(.int .i64 0),(.int .i64 0)]))),(.bool false),(.agg 82 (List.replicate 1024 (.bool false)))]); aa (stv b s2 43 x1 x2) fun s3=>some (.normal,[(0,v0),(1,v1),(5,x2)],s3):OR)) (get ρ 0) (get ρ 1):=zr
@[go_sem] theorem ad8:rc D b Mt ρ s=(fun v0 v1 v5=>(aa (ag v0) fun x0=>aa (ae 43 1 1 x0) fun x1=>aa (ldv s 1 x1) fun x2=>aa (rf D dU [x2] s) fun x3=>aa (ae 43 0 1 v5) fun x4=>aa (stv b x3.2 1 v1 x4) fun s5=>aa (ae 43 1 1 v5) fun x6=>aa (stv b s5 1 x3.1 x6) fun s7=>some (.normal,[(5,v5)],s7):OR)) (get ρ 0) (get ρ 1) (get ρ 5):=zr
@[go_sem] theorem aiw:rc D b RR ρ s=(fun v5=>(some (.normal,[(4,v5)],s):OR)) (get ρ 5):=zr
@[go_sem] theorem Ze:rc D b Nh ρ s=(fun v0 v1=>(some (.normal,[(0,v0),(1,v1)],s):OR)) (get ρ 0) (get ρ 1):=zr
@[go_sem] theorem abD:rc D b Pc ρ s=(fun v0 v1=>(aa (rf D bN [v0,v1] s) fun x0=>aa (aw 0 x0.1) fun x1=>aa (aw 1 x0.1) fun x2=>aa (aw 2 x0.1) fun x3=>some (.normal,[(0,v0),(1,v1),(6,x1),(7,x2),(8,x3)],x0.2):OR)) (get ρ 0) (get ρ 1):=zr
@[go_sem] theorem agQ:rc D b O2 ρ s=(fun v0 v1 v6 v7 v8=>(aa (ac .neq v8 (.int .i64 0)) fun x0=>some (.normal,[(0,v0),(1,v1),(6,v6),(7,v7),(8,v8),(18,x0)],s):OR)) (get ρ 0) (get ρ 1) (get ρ 6) (get ρ 7) (get ρ 8):=zr
@[go_sem] theorem afv:rc D b JZ ρ s=(fun v8=>(some (.normal,[(4,(.int .i64 0)),(5,v8)],s):OR)) (get ρ 8):=zr
@[go_sem] theorem ahc:rc D b QS ρ s=(fun v0 v1 v6 v7=>(aa (am (List.replicate 8 (.int .u64 0)) []) fun x0=>aa (rf D dA [v0,(.agg 24 x0)] s) fun x1=>aa (aw 0 x1.1) fun x2=>aa (aw 1 x1.1) fun x3=>some (.normal,[(0,v0),(1,v1),(6,v6),(7,v7),(8,x3),(9,x2)],x1.2):OR)) (get ρ 0) (get ρ 1) (get ρ 6) (get ρ 7):=zr
@[go_sem] theorem acn:rc D b Nz ρ s=(fun v0 v1 v6 v7 v8 v9=>(aa (ac .neq v8 (.int .i64 0)) fun x0=>some (.normal,[(0,v0),(1,v1),(6,v6),(7,v7),(8,v8),(9,v9),(27,x0)],s):OR)) (get ρ 0) (get ρ 1) (get ρ 6) (get ρ 7) (get ρ 8) (get ρ 9):=zr
@[go_sem] theorem ab0:rc D b Pt ρ s=(fun v8=>(some (.normal,[(4,(.int .i64 0)),(5,v8)],s):OR)) (get ρ 8):=zr
@[go_sem] theorem aeS:rc D b Nl ρ s=(fun v0 v1 v6 v7 v9=>(aa (am [(.int .i64 0),(.int .i64 0),(.int .i64 0)] [(0,v1),(1,v7),(2,v9)]) fun x0=>aa (ag v0) fun x1=>aa (ae 43 2 48 x1) fun x2=>aa (bb 48 49 42 x2 v6) fun x3=>aa (stv b s 42 (.agg 42 x0) x3) fun s4=>some (.normal,[(6,v6)],s4):OR)) (get ρ 0) (get ρ 1) (get ρ 6) (get ρ 7) (get ρ 9):=zr
@[go_sem] theorem ad4:rc D b JA ρ s=(fun v6=>(some (.normal,[(4,v6),(5,(.int .i64 0))],s):OR)) (get ρ 6):=zr
@[go_sem] theorem af6:rc D b JF ρ s=(fun v0 v1 v2 v3=>(some (.normal,[(0,v0),(1,v1),(2,v2),(3,v3)],s):OR)) (get ρ 0) (get ρ 1) (get ρ 2) (get ρ 3):=zr
@[go_sem] theorem ac2:rc D b HC ρ s=(fun v0 v1 v2 v3=>(aa (rf D bg [v0,v1] s) fun x0=>some (.normal,[(0,v0),(1,v1),(2,v2),(3,v3),(9,x0.1)],x0.2):OR)) (get ρ 0) (get ρ 1) (get ρ 2) (get ρ 3):=zr
@[go_sem] theorem adX:rc D b P3 ρ s=(fun v0 v1 v2 v3 v9=>(aa (ac .eql v9 (.int .i64 1)) fun x0=>some (.normal,[(0,v0),(1,v1),(2,v2),(3,v3),(9,v9),(15,x0)],s):OR)) (get ρ 0) (get ρ 1) (get ρ 2) (get ρ 3) (get ρ 9):=zr
@[go_sem] theorem acA:rc D b Nq ρ s=(fun v0 v1 v2 v3 v9=>(aa (ac .lss v2 (.int .i64 0)) fun x0=>some (.normal,[(0,v0),(1,v1),(2,v2),(3,v3),(9,v9),(15,x0)],s):OR)) (get ρ 0) (get ρ 1) (get ρ 2) (get ρ 3) (get ρ 9):=zr
@[go_sem] theorem ZD:rc D b Rr ρ s=(fun v0 v1 v2 v3 v9=>(aa (ac .geq v2 (.int .i64 8)) fun x0=>some (.normal,[(0,v0),(1,v1),(2,v2),(3,v3),(9,v9),(15,x0)],s):OR)) (get ρ 0) (get ρ 1) (get ρ 2) (get ρ 3) (get ρ 9):=zr
@[go_sem] theorem adT:rc D b Je ρ s= some (.normal,[(8,(.int .i64 1))],s):=zr
@[go_sem] theorem aiq:rc D b HO ρ s=(fun v0 v1 v2 v3 v9=>(aa (ac .neq v9 (.int .i64 0)) fun x0=>some (.normal,[(0,v0),(1,v1),(2,v2),(3,v3),(9,v9),(22,x0)],s):OR)) (get ρ 0) (get ρ 1) (get ρ 2) (get ρ 3) (get ρ 9):=zr
@[go_sem] theorem abQ:rc D b Mp ρ s=(fun v9=>(some (.normal,[(8,v9)],s):OR)) (get ρ 9):=zr
@[go_sem] theorem YQ:rc D b N5 ρ s=(fun v0 v1 v2 v3=>(aa (rf D bw [v0,v1] s) fun x0=>some (.normal,[(0,v0),(1,v1),(2,v2),(3,v3),(26,x0.1)],x0.2):OR)) (get ρ 0) (get ρ 1) (get ρ 2) (get ρ 3):=zr
@[go_sem] theorem aa1:rc D b Pi ρ s=(fun v0 v1 v2 v3=>(aa (ag v0) fun x0=>aa (ae 43 0 1 x0) fun x1=>aa (ldv s 1 x1) fun x2=>aa (ag v0) fun x3=>aa (ae 43 2 48 x3) fun x4=>aa (bb 48 49 42 x4 v1) fun x5=>aa (ae 42 2 10 x5) fun x6=>aa (ldv s 10 x6) fun x7=>aa (rf D dQ [x2,x7,v2,v3] s) fun x8=>some (.normal,[(8,x8.1)],x8.2):OR)) (get ρ 0) (get ρ 1) (get ρ 2) (get ρ 3):=zd
@[go_sem] theorem Yz:rc D b EZ ρ s=(fun v0 v1 v2 v3=>(aa (ag v0) fun x0=>aa (ae 43 1 1 x0) fun x1=>aa (ldv s 1 x1) fun x2=>aa (rf D bq [x2] s) fun x3=>aa (ac .eql x3.1 (.int .i64 0)) fun x4=>some (.normal,[(0,v0),(1,v1),(2,v2),(3,v3),(44,x4)],x3.2):OR)) (get ρ 0) (get ρ 1) (get ρ 2) (get ρ 3):=zr
@[go_sem] theorem Yl:rc D b B9 ρ s= some (.normal,[(8,(.int .i64 10))],s):=zr
@[go_sem] theorem XK:rc D b Cj ρ s=(fun v0 v1 v2 v3=>(aa (ag v0) fun x0=>aa (ae 43 0 1 x0) fun x1=>aa (ldv s 1 x1) fun x2=>aa (ag v0) fun x3=>aa (ae 43 2 48 x3) fun x4=>aa (bb 48 49 42 x4 v1) fun x5=>aa (ae 42 2 10 x5) fun x6=>aa (ldv s 10 x6) fun x7=>aa (dk D (aV b [x2,x7]) b cA [x2,x7] s) fun x8=>aa (aw 0 x8) fun x9=>aa (aw 1 x8) fun x10=>let x11:V:=.ptr (St.fresh s false) [] 24; let s11:St:=St.new s false (.agg 24 (List.replicate 8 (.int .u64 0))); aa (stv b s11 24 x9 x11) fun s12=>some (.normal,[(0,v0),(1,v1),(2,v2),(3,v3),(9,x10),(10,x11)],s12):OR)) (get ρ 0) (get ρ 1) (get ρ 2) (get ρ 3):=zd
@[go_sem] theorem Yv:rc D b Dd ρ s=(fun v0 v1 v2 v3 v9 v10=>(aa (ac .neq v9 (.int .i64 0)) fun x0=>some (.normal,[(0,v0),(1,v1),(2,v2),(3,v3),(9,v9),(10,v10),(67,x0)],s):OR)) (get ρ 0) (get ρ 1) (get ρ 2) (get ρ 3) (get ρ 9) (get ρ 10):=zr
@[go_sem] theorem Yt:rc D b Ch ρ s=(fun v9=>(some (.normal,[(8,v9)],s):OR)) (get ρ 9):=zr
@[go_sem] theorem Yh:rc D b Ew ρ s=(fun v0 v1 v2 v3 v10=>(aa (bb 24 8 18 v10 v2) fun x0=>aa (stv b s 18 v3 x0) fun s1=>some (.normal,[(0,v0),(1,v1),(10,v10)],s1):OR)) (get ρ 0) (get ρ 1) (get ρ 2) (get ρ 3) (get ρ 10):=zr
@[go_sem] theorem YN:rc D b EI ρ s=(fun v0 v1 v10=>(aa (ldv s 24 v10) fun x0=>aa (rf D dA [v0,x0] s) fun x1=>aa (aw 0 x1.1) fun x2=>aa (aw 1 x1.1) fun x3=>some (.normal,[(0,v0),(1,v1),(9,x3),(11,x2)],x1.2):OR)) (get ρ 0) (get ρ 1) (get ρ 10):=zr
@[go_sem] theorem YL:rc D b C7 ρ s=(fun v0 v1 v9 v11=>(aa (ac .neq v9 (.int .i64 0)) fun x0=>some (.normal,[(0,v0),(1,v1),(9,v9),(11,v11),(79,x0)],s):OR)) (get ρ 0) (get ρ 1) (get ρ 9) (get ρ 11):=zr
@[go_sem] theorem XJ:rc D b Dj ρ s=(fun v9=>(some (.normal,[(8,v9)],s):OR)) (get ρ 9):=zr
@[go_sem] theorem Yi:rc D b Cd ρ s=(fun v0 v1 v11=>(aa (ag v0) fun x0=>aa (ae 43 2 48 x0) fun x1=>aa (bb 48 49 42 x1 v1) fun x2=>aa (ae 42 2 10 x2) fun x3=>aa (stv b s 10 v11 x3) fun s4=>some (.normal,[],s4):OR)) (get ρ 0) (get ρ 1) (get ρ 11):=zr
@[go_sem] theorem XY:rc D b Ff ρ s= some (.normal,[(8,(.int .i64 0))],s):=zr
@[go_sem] theorem ahf:rc D b Ob ρ s=(fun v0=>(some (.normal,[(0,v0)],s):OR)) (get ρ 0):=zr
@[go_sem] theorem ahE:rc D b N8 ρ s=(fun v0=>(aa (ag v0) fun x0=>aa (ae 43 6 0 x0) fun x1=>aa (ldv s 0 x1) fun x2=>some (.normal,[(0,v0),(6,x2)],s):OR)) (get ρ 0):=zr
@[go_sem] theorem abv:rc D b J0 ρ s= some (.normal,[(2,(.int .i64 3))],s):=zr
@[go_sem] theorem acT:rc D b JH ρ s=(fun v0=>(aa (ag v0) fun x0=>aa (ae 43 2 48 x0) fun x1=>aa (ldv s 48 x1) fun x2=>aa (ag v0) fun x3=>aa (ae 43 5 48 x3) fun x4=>aa (stv b s 48 x2 x4) fun s5=>aa (ag v0) fun x6=>aa (ae 43 6 0 x6) fun x7=>aa (stv b s5 0 (.bool true) x7) fun s8=>some (.normal,[(0,v0)],s8):OR)) (get ρ 0):=zr
@[go_sem] theorem agX:rc D b KJ ρ s=(fun v0=>(aa (rf D bB [v0] s) fun x0=>some (.normal,[],x0.2):OR)) (get ρ 0):=zr
@[go_sem] theorem aiS:rc D b N4 ρ s= some (.normal,[(2,(.int .i64 0))],s):=zr
@[go_sem] theorem acK:rc D b Qb ρ s=(fun v0 v1 v2 v3=>(if V.ok v2 && ay false v2 then let x0:V:=.ptr (St.fresh s false) [] (V.tag v2); let s0:St:=St.new s false v2; some (.normal,[(0,v0),(1,v1),(3,v3),(6,x0)],s0) else none:OR)) (get ρ 0) (get ρ 1) (get ρ 2) (get ρ 3):=zr
@[go_sem] theorem ahV:rc D b Jh ρ s=(fun v0 v1 v3 v6=>(aa (rf D bp [] s) fun x0=>let x1:V:=.ptr (St.fresh x0.2 false) [] 50; let s1:St:=St.new x0.2 false (.agg 50 (List.replicate 8 (.int .i64 0))); aa (stv b s1 50 x0.1 x1) fun s2=>some (.normal,[(0,v0),(1,v1),(3,v3),(6,v6),(9,x1)],s2):OR)) (get ρ 0) (get ρ 1) (get ρ 3) (get ρ 6):=zr
@[go_sem] theorem afM:rc D b QI ρ s=(fun v0 v1 v3 v6 v9=>(some (.normal,[(0,v0),(1,v1),(3,v3),(6,v6),(9,v9),(10,(.int .i64 0))],s):OR)) (get ρ 0) (get ρ 1) (get ρ 3) (get ρ 6) (get ρ 9):=zr
@[go_sem] theorem abR:rc D b LQ ρ s=(fun v0 v1 v3 v6 v9 v10=>(aa (ac .lss v10 (.int .i64 8)) fun x0=>some (.normal,[(0,v0),(1,v1),(3,v3),(6,v6),(9,v9),(10,v10),(18,x0)],s):OR)) (get ρ 0) (get ρ 1) (get ρ 3) (get ρ 6) (get ρ 9) (get ρ 10):=zr
@[go_sem] theorem Zm:rc D b Rs ρ s=(fun v0 v1 v3 v6 v9 v10=>(aa (ae 54 1 10 v6) fun x0=>aa (ldv s 10 x0) fun x1=>aa (rf D aC [x1,(.int .i64 60)] s) fun x2=>aa (ac .add x2.1 v10) fun x3=>aa (bb 50 8 10 v9 v10) fun x4=>aa (stv b x2.2 10 x3 x4) fun s5=>some (.normal,[(0,v0),(1,v1),(3,v3),(6,v6),(9,v9),(10,v10)],s5):OR)) (get ρ 0) (get ρ 1) (get ρ 3) (get ρ 6) (get ρ 9) (get ρ 10):=zr
@[go_sem] theorem adu:rc D b OZ ρ s=(fun v0 v1 v3 v6 v9 v10=>(aa (V.slen false v3) fun x0=>aa (ac .geq (.int .i64 x0) (.int .i64 8)) fun x1=>some (.normal,[(0,v0),(1,v1),(3,v3),(6,v6),(9,v9),(10,v10),(30,x1)],s):OR)) (get ρ 0) (get ρ 1) (get ρ 3) (get ρ 6) (get ρ 9) (get ρ 10):=zr
@[go_sem] theorem acq:rc D b I1 ρ s=(fun v0 v1 v3 v6 v9 v10=>(aa (V.slen false v3) fun x0=>aa (ac .sub (.int .i64 x0) (.int .i64 8)) fun x1=>aa (ac .add x1 v10) fun x2=>aa (co 10 v3 x2) fun x3=>aa (ldv s 10 x3) fun x4=>aa (bb 50 8 10 v9 v10) fun x5=>aa (stv b s 10 x4 x5) fun s6=>some (.normal,[(0,v0),(1,v1),(3,v3),(6,v6),(9,v9),(10,v10)],s6):OR)) (get ρ 0) (get ρ 1) (get ρ 3) (get ρ 6) (get ρ 9) (get ρ 10):=zr
@[go_sem] theorem aaM:rc D b Qv ρ s=(fun v0 v1 v3 v6 v9 v10=>(aa (ac .add v10 (.int .i64 1)) fun x0=>some (.normal,[(0,v0),(1,v1),(3,v3),(6,v6),(9,v9),(10,x0)],s):OR)) (get ρ 0) (get ρ 1) (get ρ 3) (get ρ 6) (get ρ 9) (get ρ 10):=zr
@[go_sem] theorem ahL:rc D b LX ρ s=(fun v0 v1 v6 v9=>(aa (ae 54 0 10 v6) fun x0=>aa (ldv s 10 x0) fun x1=>aa (rf D aC [x1,(.int .i64 12)] s) fun x2=>some (.normal,[(0,v0),(1,v1),(6,v6),(9,v9),(43,x2.1)],x2.2):OR)) (get ρ 0) (get ρ 1) (get ρ 6) (get ρ 9):=zr
@[go_sem] theorem ZB:rc D b Jr ρ s=(fun v0 v1 v6 v9 v43=>(aa (ac .eql v43 (.int .i64 0)) fun x0=>some (.normal,[(0,v0),(1,v1),(6,v6),(9,v9),(43,v43),(44,x0)],s):OR)) (get ρ 0) (get ρ 1) (get ρ 6) (get ρ 9) (get ρ 43):=zr
@[go_sem] theorem YM:rc D b Fi ρ s=(fun v0 v1 v6 v9 v43=>(aa (ac .eql v43 (.int .i64 1)) fun x0=>some (.normal,[(0,v0),(1,v1),(6,v6),(9,v9),(43,v43),(44,x0)],s):OR)) (get ρ 0) (get ρ 1) (get ρ 6) (get ρ 9) (get ρ 43):=zr
@[go_sem] theorem YP:rc D b Fb ρ s=(fun v0 v1 v6 v9 v43=>(aa (ac .eql v43 (.int .i64 2)) fun x0=>some (.normal,[(0,v0),(1,v1),(6,v6),(9,v9),(43,v43),(44,x0)],s):OR)) (get ρ 0) (get ρ 1) (get ρ 6) (get ρ 9) (get ρ 43):=zr
@[go_sem] theorem Yj:rc D b E3 ρ s=(fun v0 v1 v6 v9 v43=>(aa (ac .eql v43 (.int .i64 3)) fun x0=>some (.normal,[(0,v0),(1,v1),(6,v6),(9,v9),(43,v43),(44,x0)],s):OR)) (get ρ 0) (get ρ 1) (get ρ 6) (get ρ 9) (get ρ 43):=zr
@[go_sem] theorem Yd:rc D b DR ρ s=(fun v0 v1 v6=>(aa (ae 54 1 10 v6) fun x0=>aa (ldv s 10 x0) fun x1=>aa (ae 54 2 10 v6) fun x2=>aa (ldv s 10 x2) fun x3=>aa (ae 54 3 18 v6) fun x4=>aa (ldv s 18 x4) fun x5=>aa (k8 D false (aV b [v0,x1,x3,x5]) b bU [v0,x1,x3,x5] s) fun x6=>aa (ae 54 1 10 v6) fun x7=>aa (qi x6.2 10 x7) fun x8=>aa (ae 54 2 10 v6) fun x9=>aa (qi x6.2 10 x9) fun x10=>aa (ae 54 3 18 v6) fun x11=>aa (qi x6.2 18 x11) fun x12=>aa (rf D dL [v1,x8,x10,x12] x6.2) fun x13=>aa (ac .eql x6.1 x13.1) fun x14=>some (.normal,[(8,x14)],x13.2):OR)) (get ρ 0) (get ρ 1) (get ρ 6):=zd
@[go_sem] theorem Xq:rc D b EA ρ s=(fun v0 v1 v6 v9 v43=>(aa (ac .eql v43 (.int .i64 4)) fun x0=>some (.normal,[(0,v0),(1,v1),(6,v6),(9,v9),(43,v43),(66,x0)],s):OR)) (get ρ 0) (get ρ 1) (get ρ 6) (get ρ 9) (get ρ 43):=zr
@[go_sem] theorem YD:rc D b EU ρ s=(fun v0 v1 v6=>(aa (ae 54 2 10 v6) fun x0=>aa (ldv s 10 x0) fun x1=>aa (rf D cm [v0,x1] s) fun x2=>aa (aw 0 x2.1) fun x3=>aa (aw 1 x2.1) fun x4=>some (.normal,[(1,v1),(6,v6),(11,x3),(12,x4)],x2.2):OR)) (get ρ 0) (get ρ 1) (get ρ 6):=zr
@[go_sem] theorem Xs:rc D b CI ρ s=(fun v1 v6 v11 v12=>(aa (ae 54 2 10 v6) fun x0=>aa (ldv s 10 x0) fun x1=>aa (rf D du [v1,x1] s) fun x2=>aa (aw 0 x2.1) fun x3=>aa (aw 1 x2.1) fun x4=>some (.normal,[(11,v11),(12,v12),(13,x3),(14,x4)],x2.2):OR)) (get ρ 1) (get ρ 6) (get ρ 11) (get ρ 12):=zr
@[go_sem] theorem Xr:rc D b D0 ρ s=(fun v11 v12 v13 v14=>(aa (ac .eql v11 v13) fun x0=>al x0 true (aa (ac .eql v12 v14) fun x1=>some (.normal,[(8,x1)],s)) (some (.normal,[(8,(.bool false))],s)) (none):OR)) (get ρ 11) (get ρ 12) (get ρ 13) (get ρ 14):=zr
@[go_sem] theorem XP:rc D b DG ρ s=(fun v0 v1 v6 v9 v43=>(aa (ac .eql v43 (.int .i64 5)) fun x0=>some (.normal,[(0,v0),(1,v1),(6,v6),(9,v9),(43,v43),(90,x0)],s):OR)) (get ρ 0) (get ρ 1) (get ρ 6) (get ρ 9) (get ρ 43):=zr
@[go_sem] theorem YC:rc D b Fh ρ s=(fun v0 v1 v6=>(aa (ae 54 1 10 v6) fun x0=>aa (ldv s 10 x0) fun x1=>aa (k8 D false (aV b [v0,x1]) b gv [v0,x1] s) fun x2=>aa (ae 54 1 10 v6) fun x3=>aa (qi x2.2 10 x3) fun x4=>aa (rf D dM [v1,x4] x2.2) fun x5=>aa (ac .eql x2.1 x5.1) fun x6=>some (.normal,[(8,x6)],x5.2):OR)) (get ρ 0) (get ρ 1) (get ρ 6):=zd
@[go_sem] theorem Yo:rc D b E5 ρ s=(fun v0 v1 v6 v9 v43=>(aa (ac .eql v43 (.int .i64 6)) fun x0=>some (.normal,[(0,v0),(1,v1),(6,v6),(9,v9),(43,v43),(101,x0)],s):OR)) (get ρ 0) (get ρ 1) (get ρ 6) (get ρ 9) (get ρ 43):=zr
@[go_sem] theorem Xy:rc D b Cv ρ s=(fun v0 v1=>(aa (rf D cW [v0] s) fun x0=>aa (rf D dt [v1] x0.2) fun x1=>aa (ac .eql x0.1 x1.1) fun x2=>some (.normal,[(8,x2)],x1.2):OR)) (get ρ 0) (get ρ 1):=zr
@[go_sem] theorem Xu:rc D b Cr ρ s=(fun v0 v1 v6 v9 v43=>(aa (ac .eql v43 (.int .i64 8)) fun x0=>some (.normal,[(0,v0),(1,v1),(6,v6),(9,v9),(43,v43),(108,x0)],s):OR)) (get ρ 0) (get ρ 1) (get ρ 6) (get ρ 9) (get ρ 43):=zr
@[go_sem] theorem Xz:rc D b Dk ρ s=(fun v0 v1 v9=>(aa (ldv s 50 v9) fun x0=>aa (k8 D false (aV b [v0,x0]) b eW [v0,x0] s) fun x1=>aa (qi x1.2 50 v9) fun x2=>aa (rf D cO [v1,x2] x1.2) fun x3=>aa (ac .eql x1.1 x3.1) fun x4=>some (.normal,[(8,x4)],x3.2):OR)) (get ρ 0) (get ρ 1) (get ρ 9):=zd
@[go_sem] theorem Yb:rc D b CB ρ s=(fun v0 v1 v6 v43=>(aa (ac .eql v43 (.int .i64 9)) fun x0=>some (.normal,[(0,v0),(1,v1),(6,v6),(43,v43),(117,x0)],s):OR)) (get ρ 0) (get ρ 1) (get ρ 6) (get ρ 43):=zr
@[go_sem] theorem XA:rc D b Cu ρ s=(fun v0 v1=>(aa (rf D fM [v0] s) fun x0=>aa (rf D da [v1] x0.2) fun x1=>aa (ac .eql x0.1 x1.1) fun x2=>some (.normal,[(8,x2)],x1.2):OR)) (get ρ 0) (get ρ 1):=zr
@[go_sem] theorem YA:rc D b B8 ρ s=(fun v0 v1 v6 v43=>(aa (ac .eql v43 (.int .i64 10)) fun x0=>some (.normal,[(0,v0),(1,v1),(6,v6),(124,x0)],s):OR)) (get ρ 0) (get ρ 1) (get ρ 6) (get ρ 43):=zr
@[go_sem] theorem XG:rc D b Dp ρ s=(fun v0 v1 v6=>(aa (ae 54 3 18 v6) fun x0=>aa (ldv s 18 x0) fun x1=>aa (ac .rem x1 (.int .u64 100)) fun x2=>aa (eY .i64 x2) fun x3=>some (.normal,[(0,v0),(1,v1),(6,v6),(15,x3)],s):OR)) (get ρ 0) (get ρ 1) (get ρ 6):=zr
@[go_sem] theorem XF:rc D b E6 ρ s=(fun v0 v1 v6 v15=>(aa (ae 54 1 10 v6) fun x0=>aa (ldv s 10 x0) fun x1=>aa (ae 54 2 10 v6) fun x2=>aa (ldv s 10 x2) fun x3=>aa (ae 54 1 10 v6) fun x4=>aa (ldv s 10 x4) fun x5=>aa (kr true 38 10 3 (.int .i64 0) s [(0,x1),(1,x3),(2,x5)]) fun x6=>aa (dk D (aV b [v0,x6.1,v15]) b cX [v0,x6.1,v15] x6.2) fun x7=>aa (ae 54 1 10 v6) fun x8=>aa (ldv x6.2 10 x8) fun x9=>aa (ae 54 2 10 v6) fun x10=>aa (ldv x6.2 10 x10) fun x11=>aa (ae 54 1 10 v6) fun x12=>aa (ldv x6.2 10 x12) fun x13=>aa (kr false 38 10 3 (.int .i64 0) x6.2 [(0,x9),(1,x11),(2,x13)]) fun x14=>aa (rf D bz [v1,x14.1,v15] x14.2) fun x15=>aa (eqv false 0 x7 x15.1) fun x16=>al x16 true (aa (dk D (aV b [v0,.nils,(.int .i64 (-1))]) b cX [v0,.nils,(.int .i64 (-1))] x15.2) fun x17=>aa (rf D bz [v1,.nils,(.int .i64 (-1))] x15.2) fun x18=>aa (eqv false 0 x17 x18.1) fun x19=>some (.normal,[(8,x19)],x18.2)) (some (.normal,[(8,(.bool false))],x15.2)) (none):OR)) (get ρ 0) (get ρ 1) (get ρ 6) (get ρ 15):=zd
@[go_sem] theorem XO:rc D b Dx ρ s= some (.normal,[(8,(.bool true))],s):=zr
@[go_sem] theorem abK:rc D b HJ ρ s=(fun v0 v1=>(let x0:V:=.ptr (St.fresh s false) [] 26; let s0:St:=St.new s false (.agg 26 [(.int .i64 0),(.int .i64 0),(.agg 24 (List.replicate 8 (.int .u64 0)))]); some (.normal,[(0,v0),(1,v1),(4,x0)],s0):OR)) (get ρ 0) (get ρ 1):=zr
@[go_sem] theorem afa:rc D b Q9 ρ s=(fun v0 v1 v4=>(aa (rf D bg [v0,v1] s) fun x0=>some (.normal,[(0,v0),(1,v1),(4,v4),(6,x0.1)],x0.2):OR)) (get ρ 0) (get ρ 1) (get ρ 4):=zr
@[go_sem] theorem aem:rc D b M7 ρ s=(fun v0 v1 v4 v6=>(aa (ac .neq v6 (.int .i64 0)) fun x0=>some (.normal,[(0,v0),(1,v1),(4,v4),(6,v6),(14,x0)],s):OR)) (get ρ 0) (get ρ 1) (get ρ 4) (get ρ 6):=zr
@[go_sem] theorem YZ:rc D b N6 ρ s=(fun v4 v6=>(aa (am [(.int .i64 0),(.int .i64 0),(.agg 24 (List.replicate 8 (.int .u64 0)))] []) fun x0=>aa (stv b s 26 (.agg 26 x0) v4) fun s1=>some (.normal,[(4,v4),(5,v6)],s1):OR)) (get ρ 4) (get ρ 6):=zr
@[go_sem] theorem ZU:rc D b Ri ρ s=(fun v0 v1 v4=>(aa (ag v0) fun x0=>aa (ae 43 2 48 x0) fun x1=>aa (bb 48 49 42 x1 v1) fun x2=>aa (ldv s 42 x2) fun x3=>let x4:V:=.ptr (St.fresh s false) [] 42; let s4:St:=St.new s false (.agg 42 [(.int .i64 0),(.int .i64 0),(.int .i64 0)]); aa (stv b s4 42 x3 x4) fun s5=>some (.normal,[(0,v0),(4,v4),(7,x4)],s5):OR)) (get ρ 0) (get ρ 1) (get ρ 4):=zr
@[go_sem] theorem abi:rc D b LC ρ s=(fun v0 v4 v7=>(aa (ag v0) fun x0=>aa (ae 43 0 1 x0) fun x1=>aa (ldv s 1 x1) fun x2=>aa (ae 42 2 10 v7) fun x3=>aa (ldv s 10 x3) fun x4=>aa (dk D (aV b [x2,x4]) b cA [x2,x4] s) fun x5=>aa (aw 0 x5) fun x6=>aa (aw 1 x5) fun x7=>let x8:V:=.ptr (St.fresh s false) [] 24; let s8:St:=St.new s false (.agg 24 (List.replicate 8 (.int .u64 0))); aa (stv b s8 24 x6 x8) fun s9=>some (.normal,[(4,v4),(7,v7),(8,x8),(9,x7)],s9):OR)) (get ρ 0) (get ρ 4) (get ρ 7):=zd
@[go_sem] theorem aia:rc D b MC ρ s=(fun v4 v7 v8 v9=>(aa (ac .neq v9 (.int .i64 0)) fun x0=>some (.normal,[(4,v4),(7,v7),(8,v8),(9,v9),(34,x0)],s):OR)) (get ρ 4) (get ρ 7) (get ρ 8) (get ρ 9):=zr
@[go_sem] theorem ZY:rc D b R1 ρ s=(fun v4 v9=>(aa (am [(.int .i64 0),(.int .i64 0),(.agg 24 (List.replicate 8 (.int .u64 0)))] []) fun x0=>aa (stv b s 26 (.agg 26 x0) v4) fun s1=>some (.normal,[(4,v4),(5,v9)],s1):OR)) (get ρ 4) (get ρ 9):=zr
@[go_sem] theorem aa8:rc D b Lh ρ s=(fun v4 v7 v8=>(aa (ae 42 0 10 v7) fun x0=>aa (ldv s 10 x0) fun x1=>aa (ae 42 1 10 v7) fun x2=>aa (ldv s 10 x2) fun x3=>aa (ldv s 24 v8) fun x4=>aa (am [(.int .i64 0),(.int .i64 0),(.agg 24 (List.replicate 8 (.int .u64 0)))] [(0,x1),(1,x3),(2,x4)]) fun x5=>aa (stv b s 26 (.agg 26 x5) v4) fun s6=>some (.normal,[(4,v4),(5,(.int .i64 0))],s6):OR)) (get ρ 4) (get ρ 7) (get ρ 8):=zr
@[go_sem] theorem ads:rc D b PM ρ s=(fun v0 v1=>(let x0:V:=.ptr (St.fresh s false) [] 26; let s0:St:=St.new s false (.agg 26 [(.int .i64 0),(.int .i64 0),(.agg 24 (List.replicate 8 (.int .u64 0)))]); some (.normal,[(0,v0),(1,v1),(4,x0)],s0):OR)) (get ρ 0) (get ρ 1):=zr
@[go_sem] theorem adM:rc D b Iv ρ s=(fun v0 v1 v4=>(aa (rf D aX [v0,v1] s) fun x0=>some (.normal,[(0,v0),(1,v1),(4,v4),(6,x0.1)],x0.2):OR)) (get ρ 0) (get ρ 1) (get ρ 4):=zr
@[go_sem] theorem aaL:rc D b Mr ρ s=(fun v0 v1 v4 v6=>(aa (ac .neq v6 (.int .i64 0)) fun x0=>some (.normal,[(0,v0),(1,v1),(4,v4),(6,v6),(12,x0)],s):OR)) (get ρ 0) (get ρ 1) (get ρ 4) (get ρ 6):=zr
@[go_sem] theorem agF:rc D b HU ρ s=(fun v4 v6=>(aa (am [(.int .i64 0),(.int .i64 0),(.agg 24 (List.replicate 8 (.int .u64 0)))] []) fun x0=>aa (stv b s 26 (.agg 26 x0) v4) fun s1=>some (.normal,[(4,v4),(5,v6)],s1):OR)) (get ρ 4) (get ρ 6):=zr
@[go_sem] theorem ae6:rc D b Mc ρ s=(fun v0 v1 v4=>(aa (ag v0) fun x0=>aa (ae 31 0 1 x0) fun x1=>aa (ldv s 1 x1) fun x2=>aa (ag v0) fun x3=>aa (ae 31 2 48 x3) fun x4=>aa (bb 48 49 42 x4 v1) fun x5=>aa (ae 42 2 10 x5) fun x6=>aa (ldv s 10 x6) fun x7=>aa (dk D (aV b [x2,x7]) b aW [x2,x7] s) fun x8=>aa (aw 0 x8) fun x9=>aa (aw 1 x8) fun x10=>let x11:V:=.ptr (St.fresh s false) [] 24; let s11:St:=St.new s false (.agg 24 (List.replicate 8 (.int .u64 0))); aa (stv b s11 24 x9 x11) fun s12=>some (.normal,[(0,v0),(1,v1),(4,v4),(6,x10),(7,x11)],s12):OR)) (get ρ 0) (get ρ 1) (get ρ 4):=zd
@[go_sem] theorem aaU:rc D b OU ρ s=(fun v0 v1 v4 v6 v7=>(aa (ac .neq v6 (.int .i64 0)) fun x0=>some (.normal,[(0,v0),(1,v1),(4,v4),(6,v6),(7,v7),(31,x0)],s):OR)) (get ρ 0) (get ρ 1) (get ρ 4) (get ρ 6) (get ρ 7):=zr
@[go_sem] theorem adm:rc D b KV ρ s=(fun v4 v6=>(aa (am [(.int .i64 0),(.int .i64 0),(.agg 24 (List.replicate 8 (.int .u64 0)))] []) fun x0=>aa (stv b s 26 (.agg 26 x0) v4) fun s1=>some (.normal,[(4,v4),(5,v6)],s1):OR)) (get ρ 4) (get ρ 6):=zr
@[go_sem] theorem afG:rc D b KK ρ s=(fun v0 v1 v4 v7=>(aa (ag v0) fun x0=>aa (ae 31 2 48 x0) fun x1=>aa (bb 48 49 42 x1 v1) fun x2=>aa (ae 42 0 10 x2) fun x3=>aa (ldv s 10 x3) fun x4=>aa (ag v0) fun x5=>aa (ae 31 2 48 x5) fun x6=>aa (bb 48 49 42 x6 v1) fun x7=>aa (ae 42 1 10 x7) fun x8=>aa (ldv s 10 x8) fun x9=>aa (ldv s 24 v7) fun x10=>aa (am [(.int .i64 0),(.int .i64 0),(.agg 24 (List.replicate 8 (.int .u64 0)))] [(0,x4),(1,x9),(2,x10)]) fun x11=>aa (stv b s 26 (.agg 26 x11) v4) fun s12=>some (.normal,[(4,v4),(5,(.int .i64 0))],s12):OR)) (get ρ 0) (get ρ 1) (get ρ 4) (get ρ 7):=zd
@[go_sem] theorem agt:rc D b JP ρ s=(fun v0 v1=>(some (.normal,[(0,v0),(1,v1)],s):OR)) (get ρ 0) (get ρ 1):=zr
@[go_sem] theorem abH:rc D b P9 ρ s=(fun v0 v1=>(aa (rf D kw [v1] s) fun x0=>aa (aw 0 x0.1) fun x1=>aa (aw 1 x0.1) fun x2=>let x3:V:=.ptr (St.fresh x0.2 false) [] 40; let s3:St:=St.new x0.2 false (.agg 40 [(.int .i64 0),(.int .i64 0),(.int .i64 0),(.int .i64 0),(.int .i64 0)]); aa (stv b s3 40 x1 x3) fun s4=>some (.normal,[(0,v0),(1,v1),(6,x3),(7,x2)],s4):OR)) (get ρ 0) (get ρ 1):=zr
@[go_sem] theorem abz:rc D b JC ρ s=(fun v0 v1 v6 v7=>(aa (vun .not v7) fun x0=>some (.normal,[(0,v0),(1,v1),(6,v6),(15,x0)],s):OR)) (get ρ 0) (get ρ 1) (get ρ 6) (get ρ 7):=zr
@[go_sem] theorem abE:rc D b OI ρ s= some (.normal,[(4,(.int .i64 0)),(5,(.int .i64 31))],s):=zr
@[go_sem] theorem ag9:rc D b Kl ρ s=(fun v0 v1 v6=>(aa (ae 40 2 10 v6) fun x0=>aa (ldv s 10 x0) fun x1=>aa (ag v0) fun x2=>aa (ae 43 2 48 x2) fun x3=>aa (bb 48 49 42 x3 x1) fun x4=>aa (ldv s 42 x4) fun x5=>aa (ae 40 2 10 v6) fun x6=>aa (ldv s 10 x6) fun x7=>aa (dk D (aV b [x5,x7,v1]) b km [x5,x7,v1] s) fun x8=>some (.normal,[(6,v6),(8,x8)],s):OR)) (get ρ 0) (get ρ 1) (get ρ 6):=zd
@[go_sem] theorem afP:rc D b LD ρ s=(fun v6 v8=>(aa (ac .neq v8 (.int .i64 0)) fun x0=>some (.normal,[(6,v6),(8,v8),(28,x0)],s):OR)) (get ρ 6) (get ρ 8):=zr
@[go_sem] theorem ad5:rc D b Jm ρ s=(fun v8=>(some (.normal,[(4,(.int .i64 0)),(5,v8)],s):OR)) (get ρ 8):=zr
@[go_sem] theorem acu:rc D b Jx ρ s=(fun v6=>(aa (ae 40 2 10 v6) fun x0=>aa (ldv s 10 x0) fun x1=>some (.normal,[(4,x1),(5,(.int .i64 0))],s):OR)) (get ρ 6):=zr
@[go_sem] theorem aeE:rc D b OW ρ s=(fun v0 v1=>(some (.normal,[(0,v0),(1,v1)],s):OR)) (get ρ 0) (get ρ 1):=zr
@[go_sem] theorem afr:rc D b JW ρ s=(fun v0 v1=>(aa (rf D dw [v1] s) fun x0=>aa (aw 0 x0.1) fun x1=>aa (aw 1 x0.1) fun x2=>let x3:V:=.ptr (St.fresh x0.2 false) [] 40; let s3:St:=St.new x0.2 false (.agg 40 [(.int .i64 0),(.int .i64 0),(.int .i64 0),(.int .i64 0),(.int .i64 0)]); aa (stv b s3 40 x1 x3) fun s4=>some (.normal,[(0,v0),(1,v1),(6,x3),(7,x2)],s4):OR)) (get ρ 0) (get ρ 1):=zr
@[go_sem] theorem abh:rc D b M8 ρ s=(fun v0 v1 v6 v7=>(aa (vun .not v7) fun x0=>some (.normal,[(0,v0),(1,v1),(6,v6),(15,x0)],s):OR)) (get ρ 0) (get ρ 1) (get ρ 6) (get ρ 7):=zr
@[go_sem] theorem aaX:rc D b QD ρ s= some (.normal,[(4,(.int .i64 0)),(5,(.int .i64 31))],s):=zr
@[go_sem] theorem afz:rc D b Ms ρ s=(fun v0 v1 v6=>(aa (ae 40 2 10 v6) fun x0=>aa (ldv s 10 x0) fun x1=>aa (ag v0) fun x2=>aa (ae 31 2 48 x2) fun x3=>aa (bb 48 49 42 x3 x1) fun x4=>aa (ldv s 42 x4) fun x5=>aa (ae 40 2 10 v6) fun x6=>aa (ldv s 10 x6) fun x7=>aa (dk D (aV b [x5,x7,v1]) b fa [x5,x7,v1] s) fun x8=>some (.normal,[(6,v6),(8,x8)],s):OR)) (get ρ 0) (get ρ 1) (get ρ 6):=zd
@[go_sem] theorem adW:rc D b OG ρ s=(fun v6 v8=>(aa (ac .neq v8 (.int .i64 0)) fun x0=>some (.normal,[(6,v6),(8,v8),(28,x0)],s):OR)) (get ρ 6) (get ρ 8):=zr
@[go_sem] theorem abx:rc D b Rv ρ s=(fun v8=>(some (.normal,[(4,(.int .i64 0)),(5,v8)],s):OR)) (get ρ 8):=zr
@[go_sem] theorem Zn:rc D b JB ρ s=(fun v6=>(aa (ae 40 2 10 v6) fun x0=>aa (ldv s 10 x0) fun x1=>some (.normal,[(4,x1),(5,(.int .i64 0))],s):OR)) (get ρ 6):=zr
@[go_sem] theorem aeW:rc D b J7 ρ s=(fun v0 v1=>(some (.normal,[(0,v0),(1,v1)],s):OR)) (get ρ 0) (get ρ 1):=zr
@[go_sem] theorem aeo:rc D b O6 ρ s=(fun v0 v1=>(some (.normal,[(0,v0),(9,v1)],s):OR)) (get ρ 0) (get ρ 1):=zr
@[go_sem] theorem ab5:rc D b Lp ρ s=(fun v0 v9=>(aa (ac .eql v9 (.int .i64 1)) fun x0=>some (.normal,[(0,v0),(9,v9),(10,x0)],s):OR)) (get ρ 0) (get ρ 9):=zr
@[go_sem] theorem Zu:rc D b OO ρ s=(fun v0 v9=>(aa (ac .eql v9 (.int .i64 2)) fun x0=>some (.normal,[(0,v0),(9,v9),(10,x0)],s):OR)) (get ρ 0) (get ρ 9):=zr
@[go_sem] theorem ZI:rc D b QU ρ s=(fun v0 v9=>(aa (ac .eql v9 (.int .i64 4)) fun x0=>some (.normal,[(0,v0),(10,x0)],s):OR)) (get ρ 0) (get ρ 9):=zr
@[go_sem] theorem afg:rc D b R4 ρ s= some (.normal,[(4,(.int .i64 0)),(5,(.int .i64 0)),(6,(.int .i64 1))],s):=zr
@[go_sem] theorem acD:rc D b Id ρ s=(fun v0=>(aa (ag v0) fun x0=>aa (ae 43 2 48 x0) fun x1=>aa (ldv s 48 x1) fun x2=>some (.normal,[(17,x2),(18,(.int .i64 0))],s):OR)) (get ρ 0):=zr
@[go_sem] theorem ac6:rc D b Nr ρ s=(fun v17 v18=>(aa (ac .lss v18 (.int .i64 49)) fun x0=>some (.normal,[(17,v17),(18,v18),(19,x0)],s):OR)) (get ρ 17) (get ρ 18):=zr
@[go_sem] theorem adP:rc D b NL ρ s=(fun v17 v18=>(aa (lJ 48 49 v17 v18) fun x0=>let x1:V:=.ptr (St.fresh s false) [] 42; let s1:St:=St.new s false (.agg 42 [(.int .i64 0),(.int .i64 0),(.int .i64 0)]); aa (stv b s1 42 x0 x1) fun s2=>some (.normal,[(7,v18),(8,x1),(17,v17),(18,v18)],s2):OR)) (get ρ 17) (get ρ 18):=zr
@[go_sem] theorem aiH:rc D b Me ρ s=(fun v7 v8 v17 v18=>(aa (ldv s 42 v8) fun x0=>aa (rf D kL [x0] s) fun x1=>some (.normal,[(7,v7),(8,v8),(17,v17),(18,v18),(23,x1.1)],x1.2):OR)) (get ρ 7) (get ρ 8) (get ρ 17) (get ρ 18):=zr
@[go_sem] theorem YF:rc D b Eg ρ s=(fun v7 v8=>(aa (ae 42 1 10 v8) fun x0=>aa (ldv s 10 x0) fun x1=>some (.normal,[(4,v7),(5,x1),(6,(.int .i64 0))],s):OR)) (get ρ 7) (get ρ 8):=zd
@[go_sem] theorem XE:rc D b C1 ρ s=(fun v17 v18=>(aa (ac .add v18 (.int .i64 1)) fun x0=>some (.normal,[(17,v17),(18,x0)],s):OR)) (get ρ 17) (get ρ 18):=zr
@[go_sem] theorem XI:rc D b DP ρ s= some (.normal,[(4,(.int .i64 0)),(5,(.int .i64 0)),(6,(.int .i64 34))],s):=zr
@[go_sem] theorem ahI:rc D b I0 ρ s=(fun v0 v1=>(some (.normal,[(0,v0),(1,v1)],s):OR)) (get ρ 0) (get ρ 1):=zr
@[go_sem] theorem aaV:rc D b OV ρ s=(fun v0 v1=>(aa (ac .neq v1 (.int .i64 1)) fun x0=>al x0 true (aa (ac .neq v1 (.int .i64 2)) fun x1=>al x1 true (aa (ac .neq v1 (.int .i64 4)) fun x2=>some (.normal,[(0,v0),(17,x2)],s)) (some (.normal,[(0,v0),(17,(.bool false))],s)) (none)) (some (.normal,[(0,v0),(17,(.bool false))],s)) (none):OR)) (get ρ 0) (get ρ 1):=zr
@[go_sem] theorem acU:rc D b MQ ρ s= some (.normal,[(4,(.int .i64 0)),(5,(.int .i64 0)),(6,(.int .i64 1))],s):=zr
@[go_sem] theorem ag6:rc D b Mz ρ s=(fun v0=>(some (.normal,[(0,v0),(7,(.int .i64 0))],s):OR)) (get ρ 0):=zr
@[go_sem] theorem afo:rc D b Qe ρ s=(fun v0 v7=>(aa (ac .lss v7 (.int .i64 49)) fun x0=>some (.normal,[(0,v0),(7,v7),(19,x0)],s):OR)) (get ρ 0) (get ρ 7):=zr
@[go_sem] theorem ahm:rc D b No ρ s=(fun v0 v7=>(aa (ag v0) fun x0=>aa (ae 31 2 48 x0) fun x1=>aa (bb 48 49 42 x1 v7) fun x2=>aa (ldv s 42 x2) fun x3=>aa (rf D fH [x3] s) fun x4=>some (.normal,[(0,v0),(7,v7),(28,x4.1)],x4.2):OR)) (get ρ 0) (get ρ 7):=zr
@[go_sem] theorem acH:rc D b Lb ρ s=(fun v0 v7=>(aa (ag v0) fun x0=>aa (ae 31 2 48 x0) fun x1=>aa (bb 48 49 42 x1 v7) fun x2=>aa (ae 42 1 10 x2) fun x3=>aa (ldv s 10 x3) fun x4=>some (.normal,[(4,v7),(5,x4),(6,(.int .i64 0))],s):OR)) (get ρ 0) (get ρ 7):=zd
@[go_sem] theorem aez:rc D b MD ρ s=(fun v0 v7=>(aa (ac .add v7 (.int .i64 1)) fun x0=>some (.normal,[(0,v0),(7,x0)],s):OR)) (get ρ 0) (get ρ 7):=zr
@[go_sem] theorem adb:rc D b J3 ρ s= some (.normal,[(4,(.int .i64 0)),(5,(.int .i64 0)),(6,(.int .i64 34))],s):=zr
@[go_sem] theorem adZ:rc D b LF ρ s=(fun v0 v1=>(some (.normal,[(0,v0),(1,v1)],s):OR)) (get ρ 0) (get ρ 1):=zr
@[go_sem] theorem ah4:rc D b Nv ρ s=(fun v0 v1=>(aa (rf D fU [v0] s) fun x0=>aa (aw 0 x0.1) fun x1=>aa (aw 1 x0.1) fun x2=>let x3:V:=.ptr (St.fresh x0.2 false) [] 48; let s3:St:=St.new x0.2 false (.agg 48 (List.replicate 49 (.agg 42 [(.int .i64 0),(.int .i64 0),(.int .i64 0)]))); let x4:V:=.ptr (St.fresh s3 false) [] 50; let s4:St:=St.new s3 false (.agg 50 (List.replicate 8 (.int .i64 0))); aa (stv b s4 48 x1 x3) fun s5=>aa (stv b s5 50 x2 x4) fun s6=>some (.normal,[(0,v0),(1,v1),(5,x3),(6,x4)],s6):OR)) (get ρ 0) (get ρ 1):=zr
@[go_sem] theorem agb:rc D b Ns ρ s=(fun v0 v1 v5 v6=>(aa (rf D eZ [v0] s) fun x0=>aa (aw 0 x0.1) fun x1=>aa (aw 1 x0.1) fun x2=>let x3:V:=.ptr (St.fresh x0.2 false) [] 48; let s3:St:=St.new x0.2 false (.agg 48 (List.replicate 49 (.agg 42 [(.int .i64 0),(.int .i64 0),(.int .i64 0)]))); aa (stv b s3 48 x1 x3) fun s4=>some (.normal,[(0,v0),(1,v1),(5,v5),(6,v6),(7,x3),(8,x2)],s4):OR)) (get ρ 0) (get ρ 1) (get ρ 5) (get ρ 6):=zr
@[go_sem] theorem aeh:rc D b K5 ρ s=(fun v0 v1 v5 v6 v7 v8=>(aa (dk D (aV b [v0]) b cI [v0] s) fun x0=>aa (ag v1) fun x1=>aa (ae 31 2 48 x1) fun x2=>aa (ldv s 48 x2) fun x3=>aa (eqv false 48 x0 x3) fun x4=>al x4 true (aa (ldv s 48 v5) fun x5=>aa (ag v1) fun x6=>aa (ae 31 3 48 x6) fun x7=>aa (ldv s 48 x7) fun x8=>aa (eqv false 48 x5 x8) fun x9=>al x9 true (aa (ldv s 50 v6) fun x10=>aa (ag v1) fun x11=>aa (ae 31 4 50 x11) fun x12=>aa (ldv s 50 x12) fun x13=>aa (eqv false 50 x10 x13) fun x14=>al x14 true (aa (ag v1) fun x15=>aa (ae 31 6 0 x15) fun x16=>aa (ldv s 0 x16) fun x17=>aa (eqv false 0 v8 x17) fun x18=>al x18 true (aa (vun .not v8) fun x19=>al x19 false (aa (ldv s 48 v7) fun x20=>aa (ag v1) fun x21=>aa (ae 31 5 48 x21) fun x22=>aa (ldv s 48 x22) fun x23=>aa (eqv false 48 x20 x23) fun x24=>al x24 true (aa (dk D (aV b [v0]) b ei [v0] s) fun x25=>aa (ag v1) fun x26=>aa (ae 31 1 1 x26) fun x27=>aa (ldv s 1 x27) fun x28=>aa (dk D (aV b [x28]) b aI [x28] s) fun x29=>aa (ac .eql x25 x29) fun x30=>some (.normal,[(4,x30)],s)) (some (.normal,[(4,(.bool false))],s)) (none)) (aa (dk D (aV b [v0]) b ei [v0] s) fun x20=>aa (ag v1) fun x21=>aa (ae 31 1 1 x21) fun x22=>aa (ldv s 1 x22) fun x23=>aa (dk D (aV b [x23]) b aI [x23] s) fun x24=>aa (ac .eql x20 x24) fun x25=>some (.normal,[(4,x25)],s)) (none)) (some (.normal,[(4,(.bool false))],s)) (none)) (some (.normal,[(4,(.bool false))],s)) (none)) (some (.normal,[(4,(.bool false))],s)) (none)) (some (.normal,[(4,(.bool false))],s)) (none):OR)) (get ρ 0) (get ρ 1) (get ρ 5) (get ρ 6) (get ρ 7) (get ρ 8):=zd
@[go_sem] theorem aeY:rc D b Mv ρ s=(fun v0=>(some (.normal,[(0,v0)],s):OR)) (get ρ 0):=zr
@[go_sem] theorem acm:rc D b PI ρ s=(fun v0=>(aa (ag v0) fun x0=>aa (ae 59 4 10 x0) fun x1=>aa (ldv s 10 x1) fun x2=>some (.normal,[(2,x2)],s):OR)) (get ρ 0):=zr
@[go_sem] theorem ae7:rc D b Lc ρ s=(fun v0 v1=>(let x0:V:=.ptr (St.fresh s false) [] 24; let s0:St:=St.new s false (.agg 24 (List.replicate 8 (.int .u64 0))); some (.normal,[(0,v0),(1,v1),(4,x0)],s0):OR)) (get ρ 0) (get ρ 1):=zr
@[go_sem] theorem adj:rc D b Hp ρ s=(fun v0 v1 v4=>(aa (rf D fF [v0,v1] s) fun x0=>some (.normal,[(0,v0),(4,v4),(6,x0.1)],x0.2):OR)) (get ρ 0) (get ρ 1) (get ρ 4):=zr
@[go_sem] theorem ahl:rc D b Ja ρ s=(fun v0 v4 v6=>(aa (eqv false 1 v6 .nilp) fun x0=>some (.normal,[(0,v0),(4,v4),(6,v6),(10,x0)],s):OR)) (get ρ 0) (get ρ 4) (get ρ 6):=zr
@[go_sem] theorem afI:rc D b JL ρ s=(fun v4=>(aa (am (List.replicate 8 (.int .u64 0)) []) fun x0=>aa (stv b s 24 (.agg 24 x0) v4) fun s1=>some (.normal,[(4,v4),(5,(.int .i64 1))],s1):OR)) (get ρ 4):=zr
@[go_sem] theorem abA:rc D b RD ρ s=(fun v0 v4 v6=>(aa (ag v0) fun x0=>aa (ae 59 1 0 x0) fun x1=>aa (ldv s 0 x1) fun x2=>some (.normal,[(4,v4),(6,v6),(14,x2)],s):OR)) (get ρ 0) (get ρ 4) (get ρ 6):=zr
@[go_sem] theorem aag:rc D b Oc ρ s=(fun v4=>(aa (am (List.replicate 8 (.int .u64 0)) []) fun x0=>aa (stv b s 24 (.agg 24 x0) v4) fun s1=>some (.normal,[(4,v4),(5,(.int .i64 4))],s1):OR)) (get ρ 4):=zr
@[go_sem] theorem ahq:rc D b RB ρ s=(fun v4 v6=>(aa (ag v6) fun x0=>aa (ae 55 0 24 x0) fun x1=>aa (ldv s 24 x1) fun x2=>aa (stv b s 24 x2 v4) fun s3=>some (.normal,[(4,v4),(5,(.int .i64 0))],s3):OR)) (get ρ 4) (get ρ 6):=zr
@[go_sem] theorem abg:rc D b LZ ρ s=(fun v0 v1=>(let x0:V:=.ptr (St.fresh s false) [] 24; let s0:St:=St.new s false (.agg 24 (List.replicate 8 (.int .u64 0))); some (.normal,[(0,v0),(1,v1),(4,x0)],s0):OR)) (get ρ 0) (get ρ 1):=zr
@[go_sem] theorem abk:rc D b J4 ρ s=(fun v0 v1 v4=>(aa (rf D bH [v0,v1] s) fun x0=>aa (vun .not x0.1) fun x1=>some (.normal,[(0,v0),(1,v1),(4,v4),(9,x1)],x0.2):OR)) (get ρ 0) (get ρ 1) (get ρ 4):=zr
@[go_sem] theorem Zs:rc D b M3 ρ s=(fun v4=>(aa (am (List.replicate 8 (.int .u64 0)) []) fun x0=>aa (stv b s 24 (.agg 24 x0) v4) fun s1=>some (.normal,[(4,v4),(5,(.int .i64 1))],s1):OR)) (get ρ 4):=zr
@[go_sem] theorem adl:rc D b HH ρ s=(fun v0 v1 v4=>(aa (ag v0) fun x0=>aa (ae 33 2 0 x0) fun x1=>aa (ldv s 0 x1) fun x2=>some (.normal,[(0,v0),(1,v1),(4,v4),(14,x2)],s):OR)) (get ρ 0) (get ρ 1) (get ρ 4):=zr
@[go_sem] theorem aeD:rc D b Kz ρ s=(fun v4=>(aa (am (List.replicate 8 (.int .u64 0)) []) fun x0=>aa (stv b s 24 (.agg 24 x0) v4) fun s1=>some (.normal,[(4,v4),(5,(.int .i64 4))],s1):OR)) (get ρ 4):=zr
@[go_sem] theorem adt:rc D b IB ρ s=(fun v0 v1 v4=>(aa (ag v0) fun x0=>aa (ae 33 1 1 x0) fun x1=>aa (ldv s 1 x1) fun x2=>aa (co 1 x2 v1) fun x3=>aa (ldv s 1 x3) fun x4=>aa (V.slen false x4) fun x5=>aa (rf D dp [v0,v1,(.int .i64 x5)] s) fun x6=>aa (stv b x6.2 24 x6.1 v4) fun s7=>some (.normal,[(4,v4),(5,(.int .i64 0))],s7):OR)) (get ρ 0) (get ρ 1) (get ρ 4):=zr
@[go_sem] theorem abW:rc D b QB ρ s=(fun v0=>(let x0:V:=.ptr (St.fresh s false) [] 48; let s0:St:=St.new s false (.agg 48 (List.replicate 49 (.agg 42 [(.int .i64 0),(.int .i64 0),(.int .i64 0)]))); some (.normal,[(0,v0),(2,x0)],s0):OR)) (get ρ 0):=zr
@[go_sem] theorem aaK:rc D b IV ρ s=(fun v0 v2=>(aa (ag v0) fun x0=>aa (ae 43 2 48 x0) fun x1=>aa (ldv s 48 x1) fun x2=>aa (stv b s 48 x2 v2) fun s3=>some (.normal,[(2,v2)],s3):OR)) (get ρ 0) (get ρ 2):=zr
@[go_sem] theorem ahF:rc D b J1 ρ s=(fun v0=>(some (.normal,[(0,v0)],s):OR)) (get ρ 0):=zr
@[go_sem] theorem ahw:rc D b KZ ρ s=(fun v0=>(aa (V.slen false v0) fun x0=>aa (ac .lss (.int .i64 x0) (.int .i64 64)) fun x1=>al x1 false (aa (V.slen false v0) fun x2=>aa (ac .gtr (.int .i64 x2) (.int .i64 1024)) fun x3=>some (.normal,[(0,v0),(11,x3)],s)) (some (.normal,[(0,v0),(11,(.bool true))],s)) (none):OR)) (get ρ 0):=zr
@[go_sem] theorem afN:rc D b J2 ρ s= some (.normal,[(2,.nilp),(3,(.int .i64 1))],s):=zr
@[go_sem] theorem Zz:rc D b Nn ρ s=(fun v0=>(aa (kr true 58 24 0 (.agg 24 (List.replicate 8 (.int .u64 0))) s []) fun x0=>aa (aA b true 58 24 x0.1 v0 x0.2) fun x1=>aa (V.slen false v0) fun x2=>aa (qH true 53 1 .nils x1.2 (.int .i64 x2) (.int .i64 x2)) fun x3=>aa (am [.nils,.nils,(.bool false),(.int .i64 0),(.int .i64 0)] [(0,x1.1),(1,x3.1),(3,(.int .i64 (-1)))]) fun x4=>if V.ok (.agg 33 x4) && ay true (.agg 33 x4) then let x5:V:=.ptr (St.fresh x3.2 true) [] (V.tag (.agg 33 x4)); let s5:St:=St.new x3.2 true (.agg 33 x4); some (.normal,[(2,x5),(3,(.int .i64 0))],s5) else none:OR)) (get ρ 0):=zd
@[go_sem] theorem aa7:rc D b J5 ρ s=(fun v0 v1=>(some (.normal,[(0,v0),(1,v1)],s):OR)) (get ρ 0) (get ρ 1):=zr
@[go_sem] theorem aiX:rc D b PU ρ s=(fun v0 v1=>(aa (ac .lss v0 (.int .i64 0)) fun x0=>al x0 false (aa (ac .gtr v0 v1) fun x1=>al x1 false (aa (ac .gtr v1 (.int .i64 1024)) fun x2=>some (.normal,[(0,v0),(1,v1),(18,x2)],s)) (some (.normal,[(0,v0),(1,v1),(18,(.bool true))],s)) (none)) (some (.normal,[(0,v0),(1,v1),(18,(.bool true))],s)) (none):OR)) (get ρ 0) (get ρ 1):=zr
@[go_sem] theorem aco:rc D b Kt ρ s= some (.normal,[(4,.nilp),(5,(.int .i64 1))],s):=zr
@[go_sem] theorem abq:rc D b QQ ρ s=(fun v0 v1=>(aa (am [(.int .i64 0),(.int .i64 0),(.agg 78 (List.replicate 16 (.int .u64 0))),(.agg 78 (List.replicate 16 (.int .u64 0)))] [(0,v0),(1,v1)]) fun x0=>if V.ok (.agg 80 x0) && ay true (.agg 80 x0) then let x1:V:=.ptr (St.fresh s true) [] (V.tag (.agg 80 x0)); let s1:St:=St.new s true (.agg 80 x0); some (.normal,[(0,v0),(1,v1),(6,x1)],s1) else none:OR)) (get ρ 0) (get ρ 1):=zr
@[go_sem] theorem aeB:rc D b Ke ρ s=(fun v0 v1 v6=>(aa (ac .sub v1 v0) fun x0=>some (.normal,[(0,v0),(6,v6),(25,x0),(26,(.int .i64 0))],s):OR)) (get ρ 0) (get ρ 1) (get ρ 6):=zr
@[go_sem] theorem acE:rc D b Qz ρ s=(fun v0 v6 v25 v26=>(aa (ac .lss v26 v25) fun x0=>some (.normal,[(0,v0),(6,v6),(25,v25),(26,v26),(27,x0)],s):OR)) (get ρ 0) (get ρ 6) (get ρ 25) (get ρ 26):=zr
@[go_sem] theorem Zv:rc D b Hr ρ s=(fun v0 v6 v25 v26=>(some (.normal,[(0,v0),(6,v6),(7,v26),(25,v25),(26,v26)],s):OR)) (get ρ 0) (get ρ 6) (get ρ 25) (get ρ 26):=zr
@[go_sem] theorem ag7:rc D b NN ρ s=(fun v0 v6 v7 v25 v26=>(aa (ag v6) fun x0=>aa (ae 80 2 78 x0) fun x1=>aa (ac .add v0 v7) fun x2=>aa (rf D aY [x1,x2] s) fun x3=>some (.normal,[(0,v0),(6,v6),(25,v25),(26,v26)],x3.2):OR)) (get ρ 0) (get ρ 6) (get ρ 7) (get ρ 25) (get ρ 26):=zr
@[go_sem] theorem aaS:rc D b I9 ρ s=(fun v0 v6 v25 v26=>(aa (ac .add v26 (.int .i64 1)) fun x0=>some (.normal,[(0,v0),(6,v6),(25,v25),(26,x0)],s):OR)) (get ρ 0) (get ρ 6) (get ρ 25) (get ρ 26):=zr
@[go_sem] theorem ah7:rc D b Pq ρ s=(fun v6=>(some (.normal,[(4,v6),(5,(.int .i64 0))],s):OR)) (get ρ 6):=zr
@[go_sem] theorem afk:rc D b KA ρ s=(fun v0=>(some (.normal,[(0,v0)],s):OR)) (get ρ 0):=zr
@[go_sem] theorem ahi:rc D b Nd ρ s=(fun v0=>(aa (ag v0) fun x0=>aa (ae 59 0 1 x0) fun x1=>aa (ldv s 1 x1) fun x2=>aa (V.slen false x2) fun x3=>some (.normal,[(2,(.int .i64 x3))],s):OR)) (get ρ 0):=zr
@[go_sem] theorem acM:rc D b Qt ρ s=(fun v0 v1=>(some (.normal,[(0,v0),(1,v1)],s):OR)) (get ρ 0) (get ρ 1):=zr
@[go_sem] theorem abO:rc D b J6 ρ s=(fun v0 v1=>(aa (rf D cg [v0,v1,(.int .i64 0)] s) fun x0=>some (.normal,[(0,v0),(1,v1),(5,x0.1)],x0.2):OR)) (get ρ 0) (get ρ 1):=zr
@[go_sem] theorem abo:rc D b Qd ρ s=(fun v0 v1 v5=>(aa (ac .eql v5 (.int .i64 0)) fun x0=>some (.normal,[(0,v0),(1,v1),(5,v5),(10,x0)],s):OR)) (get ρ 0) (get ρ 1) (get ρ 5):=zr
@[go_sem] theorem afX:rc D b OD ρ s=(fun v0 v1 v5=>(aa (ag v0) fun x0=>aa (ae 80 2 78 x0) fun x1=>aa (rf D aY [x1,v1] s) fun x2=>some (.normal,[(5,v5)],x2.2):OR)) (get ρ 0) (get ρ 1) (get ρ 5):=zr
@[go_sem] theorem afT:rc D b MB ρ s=(fun v5=>(some (.normal,[(4,v5)],s):OR)) (get ρ 5):=zr
@[go_sem] theorem ado:rc D b NS ρ s=(fun v0=>(aa (am (List.replicate 1024 (.bool false)) []) fun x0=>aa (ag v0) fun x1=>aa (ae 43 7 82 x1) fun x2=>aa (stv b s 82 (.agg 82 x0) x2) fun s3=>some (.normal,[(0,v0)],s3):OR)) (get ρ 0):=zr
@[go_sem] theorem ad3:rc D b OK ρ s=(fun v0=>(aa (ag v0) fun x0=>aa (ae 43 7 82 x0) fun x1=>aa (ag v0) fun x2=>aa (ae 43 3 48 x2) fun x3=>aa (ldv s 48 x3) fun x4=>aa (rf D bv [x1,x4] s) fun x5=>some (.normal,[(0,v0)],x5.2):OR)) (get ρ 0):=zd
@[go_sem] theorem aas:rc D b HE ρ s=(fun v0=>(aa (ag v0) fun x0=>aa (ae 43 6 0 x0) fun x1=>aa (ldv s 0 x1) fun x2=>some (.normal,[(0,v0),(17,x2)],s):OR)) (get ρ 0):=zr
@[go_sem] theorem ahN:rc D b KR ρ s=(fun v0=>(aa (ag v0) fun x0=>aa (ae 43 7 82 x0) fun x1=>aa (ag v0) fun x2=>aa (ae 43 5 48 x2) fun x3=>aa (ldv s 48 x3) fun x4=>aa (rf D bv [x1,x4] s) fun x5=>some (.normal,[],x5.2):OR)) (get ρ 0):=zd
@[go_sem] theorem abY:rc D b IU ρ s=(fun v0 v1=>(some (.normal,[(0,v0),(1,v1)],s):OR)) (get ρ 0) (get ρ 1):=zr
@[go_sem] theorem adp:rc D b N7 ρ s=(fun v0 v1=>(aa (ac .lss v0 (.int .i64 0)) fun x0=>al x0 false (aa (ac .gtr v0 v1) fun x1=>al x1 false (aa (ac .gtr v1 (.int .i64 1024)) fun x2=>some (.normal,[(0,v0),(1,v1),(16,x2)],s)) (some (.normal,[(0,v0),(1,v1),(16,(.bool true))],s)) (none)) (some (.normal,[(0,v0),(1,v1),(16,(.bool true))],s)) (none):OR)) (get ρ 0) (get ρ 1):=zr
@[go_sem] theorem ZS:rc D b OB ρ s= some (.normal,[(4,.nilp),(5,(.int .i64 1))],s):=zr
@[go_sem] theorem ZA:rc D b Pu ρ s=(fun v0 v1=>(aa (ac .sub v1 v0) fun x0=>aa (qH true 38 10 (.int .i64 0) s x0 x0) fun x1=>aa (am [(.int .i64 0),.nils] [(0,v0),(1,x1.1)]) fun x2=>if V.ok (.agg 21 x2) && ay true (.agg 21 x2) then let x3:V:=.ptr (St.fresh x1.2 true) [] (V.tag (.agg 21 x2)); let s3:St:=St.new x1.2 true (.agg 21 x2); some (.normal,[(4,x3),(5,(.int .i64 0))],s3) else none:OR)) (get ρ 0) (get ρ 1):=zr
@[go_sem] theorem ag8:rc D b PS ρ s=(fun v0=>(if V.ok v0 && ay false v0 then let x0:V:=.ptr (St.fresh s false) [] (V.tag v0); let s0:St:=St.new s false v0; some (.normal,[(1,x0)],s0) else none:OR)) (get ρ 0):=zr
@[go_sem] theorem aep:rc D b Ow ρ s=(fun v1=>(some (.normal,[(1,v1),(3,.nils)],s):OR)) (get ρ 1):=zr
@[go_sem] theorem aio:rc D b Mk ρ s=(fun v1 v3=>(some (.normal,[(1,v1),(3,v3),(4,(.int .i64 0))],s):OR)) (get ρ 1) (get ρ 3):=zr
@[go_sem] theorem agr:rc D b MP ρ s=(fun v1 v3 v4=>(aa (ac .lss v4 (.int .i64 49)) fun x0=>some (.normal,[(1,v1),(3,v3),(4,v4),(6,x0)],s):OR)) (get ρ 1) (get ρ 3) (get ρ 4):=zr
@[go_sem] theorem adS:rc D b J9 ρ s=(fun v1 v3 v4=>(aa (bb 48 49 42 v1 v4) fun x0=>aa (ae 42 0 10 x0) fun x1=>aa (ldv s 10 x1) fun x2=>aa (ac .neq x2 (.int .i64 0)) fun x3=>some (.normal,[(1,v1),(3,v3),(4,v4),(13,x3)],s):OR)) (get ρ 1) (get ρ 3) (get ρ 4):=zr
@[go_sem] theorem aiF:rc D b OA ρ s=(fun v1 v3 v4=>(aa (bb 48 49 42 v1 v4) fun x0=>aa (ae 42 2 10 x0) fun x1=>aa (ldv s 10 x1) fun x2=>aa (kr false 38 10 1 (.int .i64 0) s [(0,x2)]) fun x3=>aa (aA b true 38 10 v3 x3.1 x3.2) fun x4=>some (.normal,[(1,v1),(3,x4.1),(4,v4)],x4.2):OR)) (get ρ 1) (get ρ 3) (get ρ 4):=zr
@[go_sem] theorem ZN:rc D b P8 ρ s=(fun v1 v3 v4=>(aa (ac .add v4 (.int .i64 1)) fun x0=>some (.normal,[(1,v1),(3,v3),(4,x0)],s):OR)) (get ρ 1) (get ρ 3) (get ρ 4):=zr
@[go_sem] theorem aa3:rc D b Mb ρ s=(fun v3=>(some (.normal,[(2,v3)],s):OR)) (get ρ 3):=zr
@[go_sem] theorem ahx:rc D b R2 ρ s=(fun v0 v1=>(some (.normal,[(0,v0),(1,v1)],s):OR)) (get ρ 0) (get ρ 1):=zr
@[go_sem] theorem ZE:rc D b I7 ρ s=(fun v0 v1=>(aa (rf D aN [v0,v1,(.int .i64 0),(.int .i64 1)] s) fun x0=>some (.normal,[(4,x0.1)],x0.2):OR)) (get ρ 0) (get ρ 1):=zr
@[go_sem] theorem acZ:rc D b PC ρ s=(fun v0=>(some (.normal,[(0,v0)],s):OR)) (get ρ 0):=zr
@[go_sem] theorem ab3:rc D b QC ρ s=(fun v0=>(aa (ag v0) fun x0=>aa (ae 80 2 78 x0) fun x1=>aa (ldv s 78 x1) fun x2=>some (.normal,[(0,v0),(10,x2),(11,(.int .i64 0))],s):OR)) (get ρ 0):=zr
@[go_sem] theorem aew:rc D b Ix ρ s=(fun v0 v10 v11=>(aa (ac .lss v11 (.int .i64 16)) fun x0=>some (.normal,[(0,v0),(10,v10),(11,v11),(12,x0)],s):OR)) (get ρ 0) (get ρ 10) (get ρ 11):=zr
@[go_sem] theorem adH:rc D b Q8 ρ s=(fun v0 v10 v11=>(aa (lJ 78 16 v10 v11) fun x0=>some (.normal,[(0,v0),(4,v11),(5,x0),(10,v10),(11,v11)],s):OR)) (get ρ 0) (get ρ 10) (get ρ 11):=zr
@[go_sem] theorem ag5:rc D b K0 ρ s=(fun v0 v4 v5 v10 v11=>(aa (ac .neq v5 (.int .u64 0)) fun x0=>some (.normal,[(0,v0),(4,v4),(5,v5),(10,v10),(11,v11),(16,x0)],s):OR)) (get ρ 0) (get ρ 4) (get ρ 5) (get ρ 10) (get ρ 11):=zr
@[go_sem] theorem agG:rc D b PH ρ s=(fun v0 v4 v5=>(aa (ac .mul (.int .i64 64) v4) fun x0=>aa (rf D dq [v5] s) fun x1=>aa (ac .add x0 x1.1) fun x2=>some (.normal,[(0,v0),(6,x2)],x1.2):OR)) (get ρ 0) (get ρ 4) (get ρ 5):=zr
@[go_sem] theorem aiG:rc D b Md ρ s=(fun v0 v6=>(aa (ag v0) fun x0=>aa (ae 80 2 78 x0) fun x1=>aa (rf D aY [x1,v6] s) fun x2=>some (.normal,[(6,v6)],x2.2):OR)) (get ρ 0) (get ρ 6):=zr
@[go_sem] theorem aeX:rc D b IP ρ s=(fun v6=>(some (.normal,[(2,v6),(3,(.int .i64 0))],s):OR)) (get ρ 6):=zr
@[go_sem] theorem adv:rc D b Ot ρ s=(fun v0 v10 v11=>(aa (ac .add v11 (.int .i64 1)) fun x0=>some (.normal,[(0,v0),(10,v10),(11,x0)],s):OR)) (get ρ 0) (get ρ 10) (get ρ 11):=zr
@[go_sem] theorem ab9:rc D b NW ρ s= some (.normal,[(2,(.int .i64 0)),(3,(.int .i64 10))],s):=zr
@[go_sem] theorem acw:rc D b Pk ρ s=(fun v0=>(some (.normal,[(0,v0)],s):OR)) (get ρ 0):=zr
@[go_sem] theorem acQ:rc D b Ma ρ s=(fun v0=>(aa (eqv false 3 v0 .nils) fun x0=>some (.normal,[(0,v0),(4,x0)],s):OR)) (get ρ 0):=zr
@[go_sem] theorem aiP:rc D b OH ρ s= some (.normal,[(2,.nils)],s):=zr
@[go_sem] theorem abL:rc D b IA ρ s=(fun v0=>(aa (kr true 57 55 0 (.agg 55 [(.agg 24 (List.replicate 8 (.int .u64 0))),(.agg 24 (List.replicate 8 (.int .u64 0))),.nils,(.agg 50 (List.replicate 8 (.int .i64 0)))]) s []) fun x0=>aa (aA b true 57 55 x0.1 v0 x0.2) fun x1=>some (.normal,[(2,x1.1)],x1.2):OR)) (get ρ 0):=zr
@[go_sem] theorem agk:rc D b Kd ρ s=(fun v0=>(some (.normal,[(0,v0)],s):OR)) (get ρ 0):=zr
@[go_sem] theorem adC:rc D b Np ρ s=(fun v0=>(aa (eqv false 3 v0 .nils) fun x0=>some (.normal,[(0,v0),(4,x0)],s):OR)) (get ρ 0):=zr
@[go_sem] theorem agY:rc D b MX ρ s= some (.normal,[(2,.nils)],s):=zr
@[go_sem] theorem ahH:rc D b Lo ρ s=(fun v0=>(aa (kr true 86 84 0 (.agg 84 [(.int .i64 0),(.int .u64 0)]) s []) fun x0=>aa (aA b true 86 84 x0.1 v0 x0.2) fun x1=>some (.normal,[(2,x1.1)],x1.2):OR)) (get ρ 0):=zr
@[go_sem] theorem aeP:rc D b HB ρ s=(fun v0=>(some (.normal,[(0,v0)],s):OR)) (get ρ 0):=zr
@[go_sem] theorem aiv:rc D b NX ρ s=(fun v0=>(aa (ag v0) fun x0=>aa (ldv s 80 x0) fun x1=>let x2:V:=.ptr (St.fresh s true) [] 80; let s2:St:=St.new s true (.agg 80 [(.int .i64 0),(.int .i64 0),(.agg 78 (List.replicate 16 (.int .u64 0))),(.agg 78 (List.replicate 16 (.int .u64 0)))]); aa (stv b s2 80 x1 x2) fun s3=>some (.normal,[(3,x2)],s3):OR)) (get ρ 0):=zr
@[go_sem] theorem afO:rc D b MT ρ s=(fun v3=>(some (.normal,[(2,v3)],s):OR)) (get ρ 3):=zr
@[go_sem] theorem ZH:rc D b Oa ρ s=(fun v0 v1=>(if V.ok v1 && ay false v1 then let x0:V:=.ptr (St.fresh s false) [] (V.tag v1); let s0:St:=St.new s false v1; some (.normal,[(0,v0),(3,x0)],s0) else none:OR)) (get ρ 0) (get ρ 1):=zr
@[go_sem] theorem ac4:rc D b Rn ρ s=(fun v0 v3=>(aa (ag v0) fun x0=>aa (ae 43 1 1 x0) fun x1=>aa (ldv s 1 x1) fun x2=>aa (rf D bD [x2] s) fun x3=>aa (aw 0 x3.1) fun x4=>aa (aw 1 x3.1) fun x5=>some (.normal,[(0,v0),(3,v3),(6,x4),(7,x5)],x3.2):OR)) (get ρ 0) (get ρ 3):=zr
@[go_sem] theorem abN:rc D b ID ρ s=(fun v0 v3 v6 v7=>(aa (ac .neq v7 (.int .i64 0)) fun x0=>some (.normal,[(0,v0),(3,v3),(6,v6),(7,v7),(20,x0)],s):OR)) (get ρ 0) (get ρ 3) (get ρ 6) (get ρ 7):=zr
@[go_sem] theorem YW:rc D b PF ρ s=(fun v7=>(some (.normal,[(4,(.int .i64 0)),(5,v7)],s):OR)) (get ρ 7):=zr
@[go_sem] theorem aca:rc D b Lg ρ s=(fun v0 v3 v6=>(aa (ldv s 24 v3) fun x0=>some (.normal,[(0,v0),(6,v6),(22,x0),(23,(.int .i64 0))],s):OR)) (get ρ 0) (get ρ 3) (get ρ 6):=zr
@[go_sem] theorem abX:rc D b P4 ρ s=(fun v0 v6 v22 v23=>(aa (ac .lss v23 (.int .i64 8)) fun x0=>some (.normal,[(0,v0),(6,v6),(22,v22),(23,v23),(24,x0)],s):OR)) (get ρ 0) (get ρ 6) (get ρ 22) (get ρ 23):=zr
@[go_sem] theorem aaP:rc D b MR ρ s=(fun v0 v6 v22 v23=>(aa (lJ 24 8 v22 v23) fun x0=>some (.normal,[(0,v0),(6,v6),(8,v23),(9,x0),(22,v22),(23,v23)],s):OR)) (get ρ 0) (get ρ 6) (get ρ 22) (get ρ 23):=zr
@[go_sem] theorem aiI:rc D b LG ρ s=(fun v0 v6 v8 v9 v22 v23=>(aa (ag v0) fun x0=>aa (ae 43 0 1 x0) fun x1=>aa (ldv s 1 x1) fun x2=>aa (rf D dQ [x2,v6,v8,v9] s) fun x3=>some (.normal,[(0,v0),(6,v6),(10,x3.1),(22,v22),(23,v23)],x3.2):OR)) (get ρ 0) (get ρ 6) (get ρ 8) (get ρ 9) (get ρ 22) (get ρ 23):=zr
@[go_sem] theorem air:rc D b KS ρ s=(fun v0 v6 v10 v22 v23=>(aa (ac .neq v10 (.int .i64 0)) fun x0=>some (.normal,[(0,v0),(6,v6),(10,v10),(22,v22),(23,v23),(36,x0)],s):OR)) (get ρ 0) (get ρ 6) (get ρ 10) (get ρ 22) (get ρ 23):=zr
@[go_sem] theorem ad1:rc D b I3 ρ s=(fun v10=>(some (.normal,[(4,(.int .i64 0)),(5,v10)],s):OR)) (get ρ 10):=zr
@[go_sem] theorem Yu:rc D b DD ρ s=(fun v0 v6 v22 v23=>(aa (ac .add v23 (.int .i64 1)) fun x0=>some (.normal,[(0,v0),(6,v6),(22,v22),(23,x0)],s):OR)) (get ρ 0) (get ρ 6) (get ρ 22) (get ρ 23):=zr
@[go_sem] theorem YG:rc D b Ej ρ s=(fun v6=>(some (.normal,[(4,v6),(5,(.int .i64 0))],s):OR)) (get ρ 6):=zr
@[go_sem] theorem aih:rc D b JN ρ s=(fun v0 v1=>(some (.normal,[(0,v0),(1,v1)],s):OR)) (get ρ 0) (get ρ 1):=zr
@[go_sem] theorem aij:rc D b IE ρ s=(fun v0 v1=>(aa (ac .lss v1 (.int .i64 0)) fun x0=>some (.normal,[(0,v0),(1,v1),(5,x0)],s):OR)) (get ρ 0) (get ρ 1):=zr
@[go_sem] theorem ZM:rc D b QW ρ s=(fun v0 v1=>(aa (ac .geq v1 (.int .i64 49)) fun x0=>some (.normal,[(0,v0),(1,v1),(5,x0)],s):OR)) (get ρ 0) (get ρ 1):=zr
@[go_sem] theorem ab2:rc D b O9 ρ s= some (.normal,[(4,(.int .i64 1))],s):=zr
@[go_sem] theorem aav:rc D b Ml ρ s=(fun v0 v1=>(aa (ag v0) fun x0=>aa (ae 43 2 48 x0) fun x1=>aa (bb 48 49 42 x1 v1) fun x2=>aa (ae 42 0 10 x2) fun x3=>aa (ldv s 10 x3) fun x4=>aa (ac .eql x4 (.int .i64 0)) fun x5=>some (.normal,[(10,x5)],s):OR)) (get ρ 0) (get ρ 1):=zr
@[go_sem] theorem abw:rc D b QF ρ s= some (.normal,[(4,(.int .i64 30))],s):=zr
@[go_sem] theorem ac1:rc D b Lz ρ s= some (.normal,[(4,(.int .i64 0))],s):=zr
@[go_sem] theorem aaO:rc D b NY ρ s=(fun v0 v1=>(some (.normal,[(0,v0),(1,v1)],s):OR)) (get ρ 0) (get ρ 1):=zr
@[go_sem] theorem aiM:rc D b KG ρ s=(fun v0 v1=>(aa (ag v0) fun x0=>aa (ae 43 2 48 x0) fun x1=>aa (bb 48 49 42 x1 v1) fun x2=>aa (ae 42 2 10 x2) fun x3=>aa (ldv s 10 x3) fun x4=>aa (ag v0) fun x5=>aa (ae 43 7 82 x5) fun x6=>aa (bb 82 1024 0 x6 x4) fun x7=>aa (ldv s 0 x7) fun x8=>aa (vun .not x8) fun x9=>some (.normal,[(4,x9)],s):OR)) (get ρ 0) (get ρ 1):=zd
@[go_sem] theorem aao:rc D b K9 ρ s=(fun v0 v1 v2 v3=>(some (.normal,[(0,v0),(1,v1),(2,v2),(3,v3)],s):OR)) (get ρ 0) (get ρ 1) (get ρ 2) (get ρ 3):=zr
@[go_sem] theorem agO:rc D b Rq ρ s=(fun v0 v1 v2 v3=>(aa (rf D fF [v0,v1] s) fun x0=>some (.normal,[(0,v0),(2,v2),(3,v3),(9,x0.1)],x0.2):OR)) (get ρ 0) (get ρ 1) (get ρ 2) (get ρ 3):=zr
@[go_sem] theorem afW:rc D b MG ρ s=(fun v0 v2 v3 v9=>(aa (eqv false 1 v9 .nilp) fun x0=>al x0 false (aa (ac .lss v2 (.int .i64 0)) fun x1=>al x1 false (aa (ac .geq v2 (.int .i64 8)) fun x2=>some (.normal,[(0,v0),(2,v2),(3,v3),(9,v9),(23,x2)],s)) (some (.normal,[(0,v0),(2,v2),(3,v3),(9,v9),(23,(.bool true))],s)) (none)) (some (.normal,[(0,v0),(2,v2),(3,v3),(9,v9),(23,(.bool true))],s)) (none):OR)) (get ρ 0) (get ρ 2) (get ρ 3) (get ρ 9):=zr
@[go_sem] theorem adI:rc D b N1 ρ s= some (.normal,[(8,(.int .i64 1))],s):=zr
@[go_sem] theorem YR:rc D b PG ρ s=(fun v0 v2 v3 v9=>(aa (rf D ep [v0] s) fun x0=>some (.normal,[(2,v2),(3,v3),(9,v9),(10,x0.1)],x0.2):OR)) (get ρ 0) (get ρ 2) (get ρ 3) (get ρ 9):=zr
@[go_sem] theorem ahK:rc D b Rm ρ s=(fun v2 v3 v9 v10=>(aa (ac .neq v10 (.int .i64 0)) fun x0=>some (.normal,[(2,v2),(3,v3),(9,v9),(10,v10),(27,x0)],s):OR)) (get ρ 2) (get ρ 3) (get ρ 9) (get ρ 10):=zr
@[go_sem] theorem afp:rc D b OF ρ s=(fun v10=>(some (.normal,[(8,v10)],s):OR)) (get ρ 10):=zr
@[go_sem] theorem aab:rc D b Il ρ s=(fun v2 v3 v9=>(aa (ag v9) fun x0=>aa (ae 55 0 24 x0) fun x1=>aa (bb 24 8 18 x1 v2) fun x2=>aa (stv b s 18 v3 x2) fun s3=>some (.normal,[(2,v2),(3,v3),(9,v9)],s3):OR)) (get ρ 2) (get ρ 3) (get ρ 9):=zr
@[go_sem] theorem ZG:rc D b QE ρ s=(fun v2 v3 v9=>(aa (ag v9) fun x0=>aa (ae 55 2 1 x0) fun x1=>aa (ldv s 1 x1) fun x2=>aa (am [(.int .i64 0),(.int .u64 0)] [(0,v2),(1,v3)]) fun x3=>aa (kr false 86 84 1 (.agg 84 [(.int .i64 0),(.int .u64 0)]) s [(0,(.agg 84 x3))]) fun x4=>aa (aA b true 86 84 x2 x4.1 x4.2) fun x5=>aa (ag v9) fun x6=>aa (ae 55 2 1 x6) fun x7=>aa (stv b x5.2 1 x5.1 x7) fun s8=>some (.normal,[],s8):OR)) (get ρ 2) (get ρ 3) (get ρ 9):=zr
@[go_sem] theorem afi:rc D b KH ρ s= some (.normal,[(8,(.int .i64 0))],s):=zr
@[go_sem] theorem aeU:rc D b LN ρ s=(fun v0=>(some (.normal,[(0,v0)],s):OR)) (get ρ 0):=zr
@[go_sem] theorem aht:rc D b Ph ρ s=(fun v0=>(some (.normal,[(0,v0),(3,(.int .i64 0))],s):OR)) (get ρ 0):=zr
@[go_sem] theorem aaW:rc D b RY ρ s=(fun v0 v3=>(aa (ag v0) fun x0=>aa (ae 80 2 78 x0) fun x1=>aa (ldv s 78 x1) fun x2=>some (.normal,[(3,v3),(9,x2),(10,(.int .i64 0))],s):OR)) (get ρ 0) (get ρ 3):=zr
@[go_sem] theorem afc:rc D b R7 ρ s=(fun v3 v9 v10=>(aa (ac .lss v10 (.int .i64 16)) fun x0=>some (.normal,[(3,v3),(9,v9),(10,v10),(11,x0)],s):OR)) (get ρ 3) (get ρ 9) (get ρ 10):=zr
@[go_sem] theorem abj:rc D b Ll ρ s=(fun v3 v9 v10=>(aa (lJ 78 16 v9 v10) fun x0=>some (.normal,[(3,v3),(5,x0),(9,v9),(10,v10)],s):OR)) (get ρ 3) (get ρ 9) (get ρ 10):=zr
@[go_sem] theorem abV:rc D b KB ρ s=(fun v3 v5 v9 v10=>(aa (rf D eJ [v5] s) fun x0=>aa (ac .add v3 x0.1) fun x1=>some (.normal,[(3,x1),(9,v9),(10,v10)],x0.2):OR)) (get ρ 3) (get ρ 5) (get ρ 9) (get ρ 10):=zr
@[go_sem] theorem acs:rc D b K2 ρ s=(fun v3 v9 v10=>(aa (ac .add v10 (.int .i64 1)) fun x0=>some (.normal,[(3,v3),(9,v9),(10,x0)],s):OR)) (get ρ 3) (get ρ 9) (get ρ 10):=zr
@[go_sem] theorem aa5:rc D b LR ρ s=(fun v3=>(some (.normal,[(2,v3)],s):OR)) (get ρ 3):=zr
@[go_sem] theorem adU:rc D b RP ρ s=(fun v0 v1 v2 v3=>(some (.normal,[(0,v0),(1,v1),(2,v2),(3,v3)],s):OR)) (get ρ 0) (get ρ 1) (get ρ 2) (get ρ 3):=zr
@[go_sem] theorem abc:rc D b PZ ρ s=(fun v0 v1 v2 v3=>(aa (ac .lss v1 (.int .i64 0)) fun x0=>al x0 false (aa (ac .geq v1 (.int .i64 49)) fun x1=>al x1 false (aa (ac .lss v2 (.int .i64 0)) fun x2=>al x2 false (aa (ac .gtr v2 (.int .i64 7)) fun x3=>some (.normal,[(0,v0),(1,v1),(2,v2),(3,v3),(25,x3)],s)) (some (.normal,[(0,v0),(1,v1),(2,v2),(3,v3),(25,(.bool true))],s)) (none)) (some (.normal,[(0,v0),(1,v1),(2,v2),(3,v3),(25,(.bool true))],s)) (none)) (some (.normal,[(0,v0),(1,v1),(2,v2),(3,v3),(25,(.bool true))],s)) (none):OR)) (get ρ 0) (get ρ 1) (get ρ 2) (get ρ 3):=zr
@[go_sem] theorem aal:rc D b Oi ρ s= some (.normal,[(8,(.int .i64 1))],s):=zr
@[go_sem] theorem Zr:rc D b Hy ρ s=(fun v0 v1 v2 v3=>(aa (ag v0) fun x0=>aa (ae 31 2 48 x0) fun x1=>aa (bb 48 49 42 x1 v1) fun x2=>aa (ae 42 0 10 x2) fun x3=>aa (ldv s 10 x3) fun x4=>aa (ac .eql x4 (.int .i64 0)) fun x5=>some (.normal,[(0,v0),(1,v1),(2,v2),(3,v3),(33,x5)],s):OR)) (get ρ 0) (get ρ 1) (get ρ 2) (get ρ 3):=zr
@[go_sem] theorem aa4:rc D b IX ρ s= some (.normal,[(8,(.int .i64 30))],s):=zr
@[go_sem] theorem aaE:rc D b Mi ρ s=(fun v0 v1 v2 v3=>(aa (rf D aZ [v0,v1] s) fun x0=>some (.normal,[(0,v0),(1,v1),(2,v2),(3,v3),(36,x0.1)],x0.2):OR)) (get ρ 0) (get ρ 1) (get ρ 2) (get ρ 3):=zr
@[go_sem] theorem Zo:rc D b NU ρ s=(fun v0 v1 v2 v3=>(aa (ag v0) fun x0=>aa (ae 31 0 1 x0) fun x1=>aa (ldv s 1 x1) fun x2=>aa (ag v0) fun x3=>aa (ae 31 2 48 x3) fun x4=>aa (bb 48 49 42 x4 v1) fun x5=>aa (ae 42 2 10 x5) fun x6=>aa (ldv s 10 x6) fun x7=>aa (rf D bn [x2,x7,v2,v3] s) fun x8=>some (.normal,[(8,x8.1)],x8.2):OR)) (get ρ 0) (get ρ 1) (get ρ 2) (get ρ 3):=zd
@[go_sem] theorem ac5:rc D b PY ρ s=(fun v0 v1 v2 v3=>(aa (ag v0) fun x0=>aa (ae 31 1 1 x0) fun x1=>aa (ldv s 1 x1) fun x2=>aa (rf D aI [x2] s) fun x3=>aa (ac .eql x3.1 (.int .i64 0)) fun x4=>some (.normal,[(0,v0),(1,v1),(2,v2),(3,v3),(56,x4)],x3.2):OR)) (get ρ 0) (get ρ 1) (get ρ 2) (get ρ 3):=zr
@[go_sem] theorem ac3:rc D b Pj ρ s= some (.normal,[(8,(.int .i64 10))],s):=zr
@[go_sem] theorem abS:rc D b LA ρ s=(fun v0 v1 v2 v3=>(aa (ag v0) fun x0=>aa (ae 31 0 1 x0) fun x1=>aa (ldv s 1 x1) fun x2=>aa (ag v0) fun x3=>aa (ae 31 2 48 x3) fun x4=>aa (bb 48 49 42 x4 v1) fun x5=>aa (ae 42 2 10 x5) fun x6=>aa (ldv s 10 x6) fun x7=>aa (dk D (aV b [x2,x7]) b aW [x2,x7] s) fun x8=>aa (aw 0 x8) fun x9=>aa (aw 1 x8) fun x10=>let x11:V:=.ptr (St.fresh s false) [] 24; let s11:St:=St.new s false (.agg 24 (List.replicate 8 (.int .u64 0))); aa (stv b s11 24 x9 x11) fun s12=>some (.normal,[(0,v0),(1,v1),(2,v2),(3,v3),(9,x11),(10,x10)],s12):OR)) (get ρ 0) (get ρ 1) (get ρ 2) (get ρ 3):=zd
@[go_sem] theorem Xp:rc D b Dv ρ s=(fun v0 v1 v2 v3 v9 v10=>(aa (ac .neq v10 (.int .i64 0)) fun x0=>some (.normal,[(0,v0),(1,v1),(2,v2),(3,v3),(9,v9),(10,v10),(73,x0)],s):OR)) (get ρ 0) (get ρ 1) (get ρ 2) (get ρ 3) (get ρ 9) (get ρ 10):=zr
@[go_sem] theorem Yp:rc D b CZ ρ s=(fun v10=>(some (.normal,[(8,v10)],s):OR)) (get ρ 10):=zr
@[go_sem] theorem Xw:rc D b CF ρ s=(fun v0 v1 v2 v3 v9=>(aa (bb 24 8 18 v9 v2) fun x0=>aa (stv b s 18 v3 x0) fun s1=>some (.normal,[(0,v0),(1,v1),(9,v9)],s1):OR)) (get ρ 0) (get ρ 1) (get ρ 2) (get ρ 3) (get ρ 9):=zr
@[go_sem] theorem XZ:rc D b C5 ρ s=(fun v0 v1 v9=>(aa (ldv s 24 v9) fun x0=>aa (rf D bI [v0,x0] s) fun x1=>aa (aw 0 x1.1) fun x2=>aa (aw 1 x1.1) fun x3=>some (.normal,[(0,v0),(1,v1),(10,x3),(11,x2)],x1.2):OR)) (get ρ 0) (get ρ 1) (get ρ 9):=zr
@[go_sem] theorem XD:rc D b Cs ρ s=(fun v0 v1 v10 v11=>(aa (ac .eql v10 (.int .i64 0)) fun x0=>some (.normal,[(0,v0),(1,v1),(10,v10),(11,v11),(85,x0)],s):OR)) (get ρ 0) (get ρ 1) (get ρ 10) (get ρ 11):=zr
@[go_sem] theorem YI:rc D b EN ρ s=(fun v0 v1 v10 v11=>(aa (ag v0) fun x0=>aa (ae 31 2 48 x0) fun x1=>aa (bb 48 49 42 x1 v1) fun x2=>aa (ae 42 2 10 x2) fun x3=>aa (stv b s 10 v11 x3) fun s4=>some (.normal,[(10,v10)],s4):OR)) (get ρ 0) (get ρ 1) (get ρ 10) (get ρ 11):=zr
@[go_sem] theorem YK:rc D b D4 ρ s=(fun v10=>(some (.normal,[(8,v10)],s):OR)) (get ρ 10):=zr
@[go_sem] theorem af4:rc D b R3 ρ s=(fun v0 v1=>(some (.normal,[(0,v0),(1,v1)],s):OR)) (get ρ 0) (get ρ 1):=zr
@[go_sem] theorem ahj:rc D b MA ρ s=(fun v0 v1=>(aa (rf D bE [v0,v1] s) fun x0=>aa (aw 0 x0.1) fun x1=>aa (aw 1 x0.1) fun x2=>aa (aw 2 x0.1) fun x3=>some (.normal,[(0,v0),(1,v1),(6,x1),(7,x2),(8,x3)],x0.2):OR)) (get ρ 0) (get ρ 1):=zr
@[go_sem] theorem afx:rc D b N9 ρ s=(fun v0 v1 v6 v7 v8=>(aa (ac .neq v8 (.int .i64 0)) fun x0=>some (.normal,[(0,v0),(1,v1),(6,v6),(7,v7),(8,v8),(18,x0)],s):OR)) (get ρ 0) (get ρ 1) (get ρ 6) (get ρ 7) (get ρ 8):=zr
@[go_sem] theorem aga:rc D b PD ρ s=(fun v8=>(some (.normal,[(4,(.int .i64 0)),(5,v8)],s):OR)) (get ρ 8):=zr
@[go_sem] theorem ae9:rc D b Is ρ s=(fun v0 v1 v6 v7=>(aa (am (List.replicate 8 (.int .u64 0)) []) fun x0=>aa (rf D bI [v0,(.agg 24 x0)] s) fun x1=>aa (aw 0 x1.1) fun x2=>aa (aw 1 x1.1) fun x3=>some (.normal,[(0,v0),(1,v1),(6,v6),(7,v7),(8,x3),(9,x2)],x1.2):OR)) (get ρ 0) (get ρ 1) (get ρ 6) (get ρ 7):=zr
@[go_sem] theorem aei:rc D b QL ρ s=(fun v0 v1 v6 v7 v8 v9=>(aa (ac .neq v8 (.int .i64 0)) fun x0=>some (.normal,[(0,v0),(1,v1),(6,v6),(7,v7),(8,v8),(9,v9),(27,x0)],s):OR)) (get ρ 0) (get ρ 1) (get ρ 6) (get ρ 7) (get ρ 8) (get ρ 9):=zr
end
end Go.Proofs.YtnffmibpblibdaaGreatDoor
