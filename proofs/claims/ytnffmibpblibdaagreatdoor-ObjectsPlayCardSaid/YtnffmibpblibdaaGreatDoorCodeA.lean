/-
  YtnffmibpblibdaaGreatDoorCode: the code of the functions that this seat's laws reach, in the form of Ab1 (printed by a program out of the translation; held against it in YtnffmibpblibdaaGreatDoorChk).
-/
import Derived.Test.YtnffmibpblibdaaGreatDoorAbG
import Derived.KernelRfl
set_option maxRecDepth 100000
namespace Go.Proofs.YtnffmibpblibdaaGreatDoor
open Go.Ab
noncomputable section
variable {b : Nat} {ρ : Env} {s : St}
def yg : V := .ptr (.hp 0) [] 108
@[go_sem] theorem WK : yg = .ptr (.hp 0) [] 108 := nd rfl
def mu : List Int := [0, 1, 56, 2, 57, 49, 28, 3, 61, 58, 42, 50, 38, 29, 17, 4, 62, 47, 59, 36, 45, 43, 51, 22, 53, 39, 33, 30, 24, 18, 12, 5, 63, 55, 48, 27, 60, 41, 37, 16, 46, 35, 44, 21, 52, 32, 23, 11, 54, 26, 40, 15, 34, 20, 31, 10, 25, 14, 19, 9, 13, 8, 7, 6]
def dC : V := .agg 108 (mu.map (.int .u8))
def G : List Blk := [.ro dC]
def iL:Nat:=3
def fd:Nat:=4
def aC:Nat:=5
def kC:Nat:=6
def ei:Nat:=7
def dE:Nat:=8
def ct:Nat:=9
def bq:Nat:=10
def bv:Nat:=11
def iw:Nat:=12
def cW:Nat:=13
def fR:Nat:=14
def aU:Nat:=15
def gL:Nat:=16
def fN:Nat:=17
def cn:Nat:=18
def bU:Nat:=19
def da:Nat:=20
def fE:Nat:=21
def eN:Nat:=22
def dL:Nat:=23
def dT:Nat:=24
def dg:Nat:=25
def bL:Nat:=26
def bA:Nat:=27
def fF:Nat:=28
def gV:Nat:=29
def cA:Nat:=30
def aW:Nat:=31
def cG:Nat:=32
def gu:Nat:=33
def iT:Nat:=34
def ch:Nat:=35
def co:Nat:=36
def bD:Nat:=37
def ef:Nat:=38
def aL:Nat:=39
def br:Nat:=40
def bB:Nat:=41
def eJ:Nat:=42
def ec:Nat:=43
def dU:Nat:=44
def dB:Nat:=45
def bf:Nat:=46
def bw:Nat:=47
def dV:Nat:=48
def bp:Nat:=49
def dK:Nat:=50
def dq:Nat:=51
def gt:Nat:=52
def dN:Nat:=53
def dv:Nat:=54
def eY:Nat:=55
def cJ:Nat:=56
def fM:Nat:=57
def cZ:Nat:=58
def cY:Nat:=59
def bE:Nat:=60
def aX:Nat:=61
def ky:Nat:=62
def kj:Nat:=63
def dA:Nat:=64
def eZ:Nat:=65
def kK:Nat:=66
def fJ:Nat:=67
def fV:Nat:=68
def eX:Nat:=69
def d9:Nat:=70
def aI:Nat:=71
def fH:Nat:=72
def bH:Nat:=73
def dt:Nat:=74
def aY:Nat:=75
def cg:Nat:=76
def bx:Nat:=77
def aO:Nat:=78
def du:Nat:=79
def ep:Nat:=80
def eL:Nat:=81
def aZ:Nat:=82
def bn:Nat:=83
def bI:Nat:=84
def cT:Nat:=85
def mi:Nat:=86
def bd:Nat:=87
def fT:Nat:=88
def cv:Nat:=89
def bC:Nat:=90
def bb:Nat:=91
def nk:Nat:=92
def aK:Nat:=93
def fK:Nat:=94
def bX:Nat:=95
def cO:Nat:=96
def cU:Nat:=97
def cH:Nat:=98
def dH:Nat:=99
def bV:Nat:=100
def dw:Nat:=101
def be:Nat:=102
def aQ:Nat:=103
def dP:Nat:=104
def Vd:C:=zR [1,2,3] [zq 3 (.box false 0),zm 6 (.k (.bool false))]
def UB:C:=zR [1,2,3,7] [zC 46 (zf fd) [],zm 7 46]
def Vk:C:=zR [1,2,3,7,8] [zq 47 (.iad 22 2 10 3 (zi 0)),zL 48 10 47,zC 49 (zf aC) [48,(zi 64)],zB 50 .add (zi 64) 49,zm 8 50]
def UP:C:=zR [1,2,3,7,8,9] [zm 52 8,zC 53 (zf kC) [52],zm 51 53,zE 54 51 0,zE 55 51 1,zm 9 54,zm 10 55]
def UD:C:=zR [1,2,3,7,8,9,11] [zm 57 8,zC 58 (zf ei) [57],zm 56 58,zE 59 56 0,zE 60 56 1,zm 11 59,zm 12 60]
def U2:C:=zR [1,2,3,8,9,11,66] [zm 61 7,zq 62 (.un .not 61),zm 63 62,zg 64 63 false (.mv 9),zg 65 63 false (.eq false 1 64 (.k .nilp)),zP 66 63 (.k (.bool true)) 65]
def U0:C:=zR [6] [zm 6 (.k (.bool false))]
def Vq:C:=zR [1,2,3,8,9,11,13,14] [zm 68 9,zq 69 (.iad 22 2 10 3 (zi 1)),zL 70 10 69,zC 71 (zf aC) [70,(zi 31)],zC 72 (zf ct) [71],zC 73 (zf bq) [],zC 74 (zf dE) [68,(zi 10),72,73],zm 67 74,zE 75 67 0,zE 76 67 1,zm 13 75,zm 14 76]
def Vi:C:=zR [1,2,8,9,11,13,14,15,16] [zm 78 11,zq 79 (.iad 22 2 10 3 (zi 1)),zL 80 10 79,zC 81 (zf aC) [80,(zi 31)],zC 82 (zf ct) [81],zC 83 (zf bq) [],zC 84 (zf bv) [78,(zi 10),82,83],zm 77 84,zE 85 77 0,zE 86 77 1,zm 15 85,zm 16 86]
def Vm:C:=zR [1,2,8,9,11,13,15,96] [zm 87 13,zq 88 (.eq false 1 87 (.k .nilp)),zm 89 88,zg 90 89 false (.mv 14),zg 91 89 false (.bin .neq 90 (zi 0)),zP 92 89 (.k (.bool true)) 91,zm 93 92,zg 94 93 false (.mv 16),zg 95 93 false (.bin .neq 94 (zi 0)),zP 96 93 (.k (.bool true)) 95]
def PJ:C:=zR [6] [zm 6 (.k (.bool false))]
def Is:C:=zR [1,2,8,9,11,13,15] [zm 97 9,zm 98 2,zC 99 (zf iw) [97,98]]
def PR:C:=zR [1,8,9,11,13,15] [zm 100 11,zm 101 2,zC 102 (zf cW) [100,101]]
def JZ:C:=zR [1,8,9,11,13,15,17] [zq 103 (.bsl false 38 10 (.int .i64 0) 0 []),zm 17 103]
def Jn:C:=zR [1,8,9,11,13,15,17,18] [zm 18 (zi 0)]
def JD:C:=zR [1,8,9,11,13,15,17,18,111] [zm 104 18,zm 105 1,zq 106 (.len false 105),zB 107 .lss 104 106,zm 108 107,zg 109 108 true (.mv 18),zg 110 108 true (.bin .lss 109 (zi 80)),zP 111 108 110 (.k (.bool false))]
def LA:C:=zR [1,8,9,11,13,15,17,18,19] [zm 114 1,zm 115 18,zq 116 (.sad 54 114 115),zL 117 54 116,zq 19 (.alloc false (.agg 54 [(.int .i64 0),(.int .i64 0),(.int .i64 0),(.int .u64 0)])),zS 54 19 117]
def NU:C:=zR [1,8,9,11,13,15,17,18,19,121] [zF 118 54 0 10 19,zL 119 10 118,zC 120 (zf aC) [119,(zi 12)],zB 121 .eql 120 (zi 7)]
def Na:C:=zR [1,8,9,11,13,15,17,18,19,20,21] [zm 123 13,zC 124 (zf fR) [123],zm 122 124,zE 125 122 0,zE 126 122 1,zm 20 125,zm 21 126]
def Rn:C:=zR [1,8,9,11,13,15,17,18,19,20,21,22,23] [zm 128 15,zN 129 128,zF 130 31 1 1 129,zL 131 1 130,zC 132 (zf aU) [131],zm 127 132,zE 133 127 0,zE 134 127 1,zm 22 133,zm 23 134]
def Ir:C:=zR [1,8,9,11,13,15,17,18,19,20,21,142] [zm 135 20,zm 136 22,zB 137 .neq 135 136,zm 138 137,zg 139 138 false (.mv 21),zg 140 138 false (.mv 23),zg 141 138 false (.bin .neq 139 140),zP 142 138 (.k (.bool true)) 141]
def PY:C:=zR [6] [zm 6 (.k (.bool false))]
def Lg:C:=zR [1,8,9,11,13,15,17,18,19,20,144] [zm 143 21,zB 144 .eql 143 (zi 0)]
def Pc:C:=zR [1,8,9,11,13,15,17,18,19] [zm 145 17,zm 146 20,zq 147 (.bsl false 38 10 (.int .i64 0) 1 [(0,146)]),zq 148 (.app true 38 10 145 147),zm 17 148]
def Rx:C:=zR [1,8,9,11,13,15,17,18,19,152] [zF 149 54 0 10 19,zL 150 10 149,zC 151 (zf aC) [150,(zi 12)],zB 152 .eql 151 (zi 11)]
def N7:C:=zR [1,8,9,11,13,15,17,18,19] [zm 153 9,zC 154 (zf gL) [153],zm 9 154]
def Mn:C:=zR [1,8,9,11,13,15,17,18,19,156] [zm 155 9,zq 156 (.eq false 1 155 (.k .nilp))]
def KU:C:=zR [6] [zm 6 (.k (.bool false))]
def HY:C:=zR [1,8,9,11,13,15,17,18,19,24] [zm 157 13,zm 24 157]
def Re:C:=zR [1,8,9,11,13,15,17,18,19,24] [zm 158 13,zm 159 9,zC 160 (zf fN) [158,159],zm 13 160]
def Oi:C:=zR [1,8,9,11,13,15,17,18,19,24,162] [zm 161 13,zq 162 (.eq false 1 161 (.k .nilp))]
def Lw:C:=zR [6] [zm 6 (.k (.bool false))]
def MC:C:=zR [1,8,9,11,13,15,17,18,19,24] [zm 163 24,zC 164 (zf cn) [163,(zi 1)]]
def OB:C:=zR [1,8,9,11,13,15,17,18,19,24] [zm 165 24,zC 166 (zf bU) [165,(zi 0),(zi 0),(.k (.int .u64 99))]]
def QB:C:=zR [1,8,9,11,13,15,17,18,19] [zm 167 24,zC 168 (zf da) [167]]
def O9:C:=zR [1,8,9,11,13,15,17,18,19,25] [zm 169 13,zm 170 15,zL 171 54 19,zm 172 17,zC 173 (zf fE) [169,170,171,172],zm 25 173]
def Mr:C:=zR [1,8,9,11,13,15,17,18,19,25,26,27] [zm 175 13,zF 176 54 1 10 19,zL 177 10 176,zC 178 (zf eN) [175,177],zm 174 178,zE 179 174 0,zE 180 174 1,zq 26 (.alloc false (.agg 26 [(.int .i64 0),(.int .i64 0),(.agg 24 (List.replicate 8 (.int .u64 0)))])),zS 26 26 179,zm 27 180]
def I0:C:=zR [1,8,9,11,13,15,17,18,19,25,26,27,28,29] [zm 182 15,zF 183 54 1 10 19,zL 184 10 183,zC 185 (zf dL) [182,184],zm 181 185,zE 186 181 0,zE 187 181 1,zq 28 (.alloc false (.agg 26 [(.int .i64 0),(.int .i64 0),(.agg 24 (List.replicate 8 (.int .u64 0)))])),zS 26 28 186,zm 29 187]
def Hp:C:=zR [1,8,9,11,13,15,17,18,19,25,26,27,28,29,30,31] [zm 189 13,zF 190 54 3 18 19,zL 191 18 190,zC 192 (zf dT) [189,191],zm 188 192,zE 193 188 0,zE 194 188 1,zm 30 193,zm 31 194]
def Oy:C:=zR [1,8,9,11,13,15,17,18,19,25,26,27,28,29,30,31,32,33] [zm 196 15,zF 197 54 3 18 19,zL 198 18 197,zC 199 (zf dg) [196,198],zm 195 199,zE 200 195 0,zE 201 195 1,zm 32 200,zm 33 201]
def NR:C:=zR [1,8,9,11,13,15,17,18,19,25,26,27,28,29,30,31,32,33,34,35,36] [zm 203 13,zF 204 54 2 10 19,zL 205 10 204,zC 206 (zf bL) [203,205],zm 202 206,zE 207 202 0,zE 208 202 1,zE 209 202 2,zm 34 207,zm 35 208,zm 36 209]
def MZ:C:=zR [1,8,9,11,13,15,17,18,25,26,27,28,29,30,31,32,33,34,35,36,37,38,39] [zm 211 15,zF 212 54 2 10 19,zL 213 10 212,zC 214 (zf bA) [211,213],zm 210 214,zE 215 210 0,zE 216 210 1,zE 217 210 2,zm 37 215,zm 38 216,zm 39 217]
def Ri:C:=zR [1,8,9,11,13,15,17,18,25,26,27,28,29,30,31,32,33,34,35,36,37,38,39,40] [zm 218 13,zm 219 15,zC 220 (zf fF) [218,219],zm 40 220]
def Np:C:=zD [1,8,9,11,13,15,17,18,270] [zm 221 25,zq 222 (.un .not 221),zm 223 222,zg 224 223 false (.mv 40),zg 225 223 false (.un .not 224),zP 226 223 (.k (.bool true)) 225,zm 227 226,zg 228 227 false (.ld 26 26),zg 229 227 false (.ld 26 28),zg 230 227 false (.eq true 26 228 229),zP 231 227 (.k (.bool true)) 230,zm 232 231,zg 233 232 false (.mv 27),zg 234 232 false (.mv 29),zg 235 232 false (.bin .neq 233 234),zP 236 232 (.k (.bool true)) 235,zm 237 236,zg 238 237 false (.mv 30),zg 239 237 false (.mv 32),zg 240 237 false (.bin .neq 238 239),zP 241 237 (.k (.bool true)) 240,zm 242 241,zg 243 242 false (.mv 31),zg 244 242 false (.mv 33),zg 245 242 false (.bin .neq 243 244),zP 246 242 (.k (.bool true)) 245,zm 247 246,zg 248 247 false (.mv 34),zg 249 247 false (.mv 37),zg 250 247 false (.bin .neq 248 249),zP 251 247 (.k (.bool true)) 250,zm 252 251,zg 253 252 false (.mv 35),zg 254 252 false (.mv 38),zg 255 252 false (.bin .neq 253 254),zP 256 252 (.k (.bool true)) 255,zm 257 256,zg 258 257 false (.mv 36),zg 259 257 false (.mv 39),zg 260 257 false (.bin .neq 258 259),zP 261 257 (.k (.bool true)) 260,zm 262 261,zg 263 262 false (.mv 9),zg 264 262 false (.pcall (zf gV) [263]),zg 265 262 false (.mv 11),zg 266 262 false (.nilc 265),zg 267 262 false (.fad 33 4 10 266),zg 268 262 false (.ld 10 267),zg 269 262 false (.bin .neq 264 268),zP 270 262 (.k (.bool true)) 269]
def M0:C:=zR [6] [zm 6 (.k (.bool false))]
def IR:C:=zR [1,8,9,11,13,15,17,18] [zm 112 18,zB 113 .add 112 (zi 1),zm 18 113]
def LL:C:=zR [8,9,11,41] [zm 41 (zi 0)]
def Q7:C:=zR [8,9,11,41,273] [zm 271 41,zm 272 8,zB 273 .lss 271 272]
def QX:C:=zR [8,9,11,41,42,43] [zm 277 9,zm 278 41,zC 279 (zf cA) [277,278],zm 276 279,zE 280 276 0,zE 281 276 1,zq 42 (.alloc false (.agg 24 (List.replicate 8 (.int .u64 0)))),zS 24 42 280,zm 43 281]
def QL:C:=zR [8,9,11,41,42,43,44,45] [zm 283 11,zm 284 41,zC 285 (zf aW) [283,284],zm 282 285,zE 286 282 0,zE 287 282 1,zq 44 (.alloc false (.agg 24 (List.replicate 8 (.int .u64 0)))),zS 24 44 286,zm 45 287]
def PN:C:=zR [8,9,11,41,295] [zL 288 24 42,zL 289 24 44,zq 290 (.eq true 24 288 289),zm 291 290,zg 292 291 false (.mv 43),zg 293 291 false (.mv 45),zg 294 291 false (.bin .neq 292 293),zP 295 291 (.k (.bool true)) 294]
def PP:C:=zR [6] [zm 6 (.k (.bool false))]
def Ih:C:=zR [8,9,11,41] [zm 274 41,zB 275 .add 274 (zi 1),zm 41 275]
def Q0:C:=zR [6] [zm 6 (.k (.bool true))]
def ai:C:=.seq (.seq JD (.cond (.t 111) (.skip) (.exit 0))) (.seq (.block 1 (.seq LA (.seq (.seq NU (.cond (.t 121) (.seq Na (.seq Rn (.seq (.seq Ir (.cond (.t 142) (.seq PY (.ret)) (.skip))) (.seq Lg (.cond (.t 144) Pc (.skip)))))) (.skip))) (.seq (.seq Rx (.cond (.t 152) (.seq N7 (.seq (.seq Mn (.cond (.t 156) (.seq KU (.ret)) (.skip))) (.seq HY (.seq Re (.seq (.seq Oi (.cond (.t 162) (.seq Lw (.ret)) (.skip))) (.seq MC (.seq OB QB))))))) (.skip))) (.seq O9 (.seq Mr (.seq I0 (.seq Hp (.seq Oy (.seq NR (.seq MZ (.seq Ri (.seq Np (.cond (.t 270) (.seq M0 (.ret)) (.skip))))))))))))))) IR)
def cD:C:=.seq (.seq Q7 (.cond (.t 273) (.skip) (.exit 2))) (.seq (.block 3 (.seq QX (.seq QL (.seq PN (.cond (.t 295) (.seq PP (.ret)) (.skip)))))) Ih)
@[go_sem] def eE:Fc:=⟨3,.seq Vd (.seq UB (.seq Vk (.seq UP (.seq UD (.seq (.seq U2 (.cond (.t 66) (.seq U0 (.ret)) (.skip))) (.seq Vq (.seq Vi (.seq (.seq Vm (.cond (.t 96) (.seq PJ (.ret)) (.skip))) (.seq Is (.seq PR (.seq JZ (.seq (.seq Jn (.block 0 (.loop [1,8,9,11,13,15,17,18] ai))) (.seq (.seq LL (.block 2 (.loop [8,9,11,41] cD))) (.seq Q0 (.ret))))))))))))))),[.t 6]⟩
def W7:C:=zR [] [zm 0 (.k (.bool false))]
def WX:C:=zR [1] [zC 18 (zf kC) [(zi 80)],zm 17 18,zE 19 17 0,zE 20 17 1,zm 1 19,zm 2 20]
def Xg:C:=zR [1,22] [zm 21 1,zq 22 (.eq false 1 21 (.k .nilp))]
def Xd:C:=zR [0] [zm 0 (.k (.bool false))]
def W4:C:=zR [1,3] [zq 23 (.bld (.agg 48 (List.replicate 49 (.agg 42 [(.int .i64 0),(.int .i64 0),(.int .i64 0)]))) []),zq 3 (.alloc false (.agg 48 (List.replicate 49 (.agg 42 [(.int .i64 0),(.int .i64 0),(.int .i64 0)])))),zS 48 3 23]
def WW:C:=zR [1,3] [zq 24 (.bld (.agg 42 [(.int .i64 0),(.int .i64 0),(.int .i64 0)]) [(0,(zi 1)),(2,(zi 20))]),zq 25 (.iad 48 49 42 3 (zi 0)),zS 42 25 24]
def WV:C:=zD [4,5] [zm 27 1,zL 28 48 3,zq 29 (.pcall (zf bq) []),zC 30 (zf dE) [27,(zi 10),28,29],zm 26 30,zE 31 26 0,zE 32 26 1,zm 4 31,zm 5 32]
def Xc:C:=zR [4,38] [zm 33 4,zq 34 (.eq false 1 33 (.k .nilp)),zm 35 34,zg 36 35 false (.mv 5),zg 37 35 false (.bin .neq 36 (zi 0)),zP 38 35 (.k (.bool true)) 37]
def Xb:C:=zR [0] [zm 0 (.k (.bool false))]
def WM:C:=zR [4,6] [zm 39 4,zC 40 (zf bU) [39,(zi 0),(zi 3),(.k (.int .u64 7))],zm 6 40]
def VZ:C:=zR [4,6,7] [zm 41 4,zC 42 (zf cG) [41],zq 7 (.alloc false (.agg 48 (List.replicate 49 (.agg 42 [(.int .i64 0),(.int .i64 0),(.int .i64 0)])))),zS 48 7 42]
def V9:C:=zR [4,6,7,8] [zm 43 4,zC 44 (zf bU) [43,(zi 0),(zi 4),(.k (.int .u64 8))],zm 8 44]
def Wp:C:=zR [4,6,7,8,9] [zm 45 4,zC 46 (zf cG) [45],zq 9 (.alloc false (.agg 48 (List.replicate 49 (.agg 42 [(.int .i64 0),(.int .i64 0),(.int .i64 0)])))),zS 48 9 46]
def Wk:C:=zR [4,6,7,8,9,10] [zm 48 4,zC 49 (zf eN) [48,(zi 0)],zm 47 49,zE 50 47 0,zE 51 47 1,zq 10 (.alloc false (.agg 26 [(.int .i64 0),(.int .i64 0),(.agg 24 (List.replicate 8 (.int .u64 0)))])),zS 26 10 50,zm 11 51]
def Ws:C:=zR [4,6,7,8,9,10,13] [zm 53 4,zC 54 (zf cn) [53,(zi 3)],zm 52 54,zE 55 52 0,zE 56 52 1,zm 12 55,zm 13 56]
def Wi:C:=zR [6,7,8,9,10,13,14,15,16] [zm 58 4,zC 59 (zf bL) [58,(zi 1)],zm 57 59,zE 60 57 0,zE 61 57 1,zE 62 57 2,zm 14 60,zm 15 61,zm 16 62]
def V2:C:=zR [0] [zm 63 6,zB 64 .eql 63 (zi 0),zm 65 64,zg 66 65 true (.mv 8),zg 67 65 true (.bin .eql 66 (zi 0)),zP 68 65 67 (.k (.bool false)),zm 69 68,zg 70 69 true (.iad 48 49 42 7 (zi 0)),zg 71 69 true (.fad 42 2 10 70),zg 72 69 true (.ld 10 71),zg 73 69 true (.bin .neq 72 (zi 20)),zP 74 69 73 (.k (.bool false)),zm 75 74,zg 76 75 true (.iad 48 49 42 9 (zi 0)),zg 77 75 true (.fad 42 2 10 76),zg 78 75 true (.ld 10 77),zg 79 75 true (.iad 48 49 42 7 (zi 0)),zg 80 75 true (.fad 42 2 10 79),zg 81 75 true (.ld 10 80),zg 82 75 true (.bin .eql 78 81),zP 83 75 82 (.k (.bool false)),zm 84 83,zg 85 84 true (.fad 26 2 24 10),zg 86 84 true (.ld 24 85),zg 87 84 true (.bld (.agg 24 (List.replicate 8 (.int .u64 0))) [(3,(.k (.int .u64 7))),(4,(.k (.int .u64 8)))]),zg 88 84 true (.eq false 24 86 87),zP 89 84 88 (.k (.bool false)),zm 90 89,zg 91 90 true (.mv 13),zg 92 90 true (.bin .eql 91 (zi 1)),zP 93 90 92 (.k (.bool false)),zm 94 93,zg 95 94 true (.mv 14),zg 96 94 true (.bin .eql 95 (zi 1)),zP 97 94 96 (.k (.bool false)),zm 98 97,zg 99 98 true (.mv 15),zg 100 98 true (.bin .eql 99 (zi 0)),zP 101 98 100 (.k (.bool false)),zm 102 101,zg 103 102 true (.mv 16),zg 104 102 true (.bin .eql 103 (zi 0)),zP 105 102 104 (.k (.bool false)),zm 0 105]
@[go_sem] def j7:Fc:=⟨0,.seq W7 (.seq WX (.seq (.seq Xg (.cond (.t 22) (.seq Xd (.ret)) (.skip))) (.seq W4 (.seq WW (.seq WV (.seq (.seq Xc (.cond (.t 38) (.seq Xb (.ret)) (.skip))) (.seq WM (.seq VZ (.seq V9 (.seq Wp (.seq Wk (.seq Ws (.seq Wi (.seq V2 (.ret))))))))))))))),[.t 0]⟩
def Uz:C:=zR [0,1] [zm 4 (zi 0)]
def VM:C:=zR [0,1,6] [zm 5 0,zB 6 .lss 5 (zi 0)]
def UR:C:=zR [0,1] [zm 7 0,zB 8 .add 7 (zi 1),zq 9 (.un .neg 8),zm 0 9]
def Vl:C:=zR [4] [zm 10 0,zm 11 1,zB 12 .rem 10 11,zm 4 12]
@[go_sem] def hU:Fc:=⟨2,.seq Uz (.seq (.seq VM (.cond (.t 6) UR (.skip))) (.seq Vl (.ret))),[.t 4]⟩
def U8:C:=zR [0] [zm 2 (.k .nilp),zm 3 (zi 0)]
def Ug:C:=zR [0,9] [zm 4 0,zB 5 .lss 4 (zi 64),zm 6 5,zg 7 6 false (.mv 0),zg 8 6 false (.bin .gtr 7 (zi 1024)),zP 9 6 (.k (.bool true)) 8]
def Un:C:=zR [2,3] [zm 2 (.k .nilp),zm 3 (zi 1)]
def Vo:C:=zR [2,3] [zm 10 0,zq 11 (.mksl true 57 55 (.agg 55 [(.agg 24 (List.replicate 8 (.int .u64 0))),(.agg 24 (List.replicate 8 (.int .u64 0))),.nils,(.agg 50 (List.replicate 8 (.int .i64 0)))]) 10 10),zq 12 (.bld (.agg 59 [.nils,(.bool false),(.bool false),(.int .i64 0),(.int .i64 0)]) [(0,11)]),zq 13 (.box true 12),zm 2 13,zm 3 (zi 0)]
@[go_sem] def pO:Fc:=⟨1,.seq U8 (.seq (.seq Ug (.cond (.t 9) (.seq Un (.ret)) (.skip))) (.seq Vo (.ret))),[.t 2,.t 3]⟩
def Vj:C:=zR [0] [zm 2 (.k .nilp),zm 3 (zi 0)]
def Uw:C:=zR [0,9] [zm 4 0,zB 5 .lss 4 (zi 64),zm 6 5,zg 7 6 false (.mv 0),zg 8 6 false (.bin .gtr 7 (zi 1024)),zP 9 6 (.k (.bool true)) 8]
def UH:C:=zR [2,3] [zm 2 (.k .nilp),zm 3 (zi 1)]
def Vp:C:=zR [2,3] [zm 10 0,zq 11 (.mksl false 58 24 (.agg 24 (List.replicate 8 (.int .u64 0))) 10 10),zC 12 (zf gu) [11],zE 13 12 0,zE 14 12 1,zm 2 13,zm 3 14]
@[go_sem] def iz:Fc:=⟨1,.seq Vj (.seq (.seq Uw (.cond (.t 9) (.seq UH (.ret)) (.skip))) (.seq Vp (.ret))),[.t 2,.t 3]⟩
def Vt:C:=zR [0,1,6,7] [zq 6 (.box false 2),zq 7 (.box false 3),zm 8 (.k .nilp),zm 9 (zi 0)]
def Vg:C:=zR [0,6,7,10,11] [zm 18 1,zm 19 0,zC 20 (zf ch) [19],zC 21 (zf iT) [18,20],zm 17 21,zE 22 17 0,zE 23 17 1,zm 10 22,zm 11 23]
def UJ:C:=zR [0,6,7,10,11,25] [zm 24 11,zB 25 .neq 24 (zi 0)]
def UT:C:=zR [8,9] [zm 26 11,zm 8 (.k .nilp),zm 9 26]
def VN:C:=zR [6,7,10,12] [zm 27 0,zm 28 10,zL 29 48 6,zL 30 48 6,zL 31 50 7,zq 32 (.bld (.agg 43 [.nilp,.nilp,(.agg 48 (List.replicate 49 (.agg 42 [(.int .i64 0),(.int .i64 0),(.int .i64 0)]))),(.agg 48 (List.replicate 49 (.agg 42 [(.int .i64 0),(.int .i64 0),(.int .i64 0)]))),(.agg 50 (List.replicate 8 (.int .i64 0))),(.agg 48 (List.replicate 49 (.agg 42 [(.int .i64 0),(.int .i64 0),(.int .i64 0)]))),(.bool false),(.agg 82 (List.replicate 1024 (.bool false)))]) [(0,27),(1,28),(2,29),(3,30),(4,31)]),zq 33 (.box true 32),zm 12 33]
def Vv:C:=zR [7,10,12,34,35] [zL 34 48 6,zm 35 (zi 0)]
def UU:C:=zR [7,10,12,34,35,36] [zB 36 .lss 35 (zi 49)]
def Vw:C:=zR [7,10,12,14,34,35] [zq 37 (.idx 48 49 34 35),zq 14 (.alloc false (.agg 42 [(.int .i64 0),(.int .i64 0),(.int .i64 0)])),zS 42 14 37]
def VL:C:=zR [7,10,12,34,35,47] [zF 38 42 0 10 14,zL 39 10 38,zB 40 .neq 39 (zi 0),zm 41 40,zg 42 41 true (.mv 10),zg 43 41 true (.fad 42 2 10 14),zg 44 41 true (.ld 10 43),zg 45 41 true (.call (zf co) [42,44]),zg 46 41 true (.bin .neq 45 (zi 0)),zP 47 41 46 (.k (.bool false))]
def Vf:C:=zR [8,9] [zm 8 (.k .nilp),zm 9 (zi 21)]
def MN:C:=zR [7,10,12,34,35] [zB 48 .add 35 (zi 1),zm 35 48]
def O7:C:=zR [10,12,49,50] [zL 49 50 7,zm 50 (zi 0)]
def N0:C:=zR [10,12,49,50,51] [zB 51 .lss 50 (zi 8)]
def ID:C:=zR [10,12,16,49,50] [zq 52 (.idx 50 8 49 50),zm 16 52]
def Nu:C:=zR [10,12,49,50,56] [zm 53 10,zm 54 16,zC 55 (zf co) [53,54],zB 56 .neq 55 (zi 0)]
def QQ:C:=zR [8,9] [zm 8 (.k .nilp),zm 9 (zi 21)]
def Pz:C:=zR [10,12,49,50] [zB 57 .add 50 (zi 1),zm 50 57]
def HD:C:=zR [12] [zm 58 12,zC 59 (zf bD) [58]]
def P2:C:=zR [8,9] [zm 60 12,zm 8 60,zm 9 (zi 0)]
def gc:C:=.seq UU (.seq (.cond (.t 36) (.skip) (.exit 0)) (.seq (.block 1 (.seq Vw (.seq VL (.cond (.t 47) (.seq Vf (.ret)) (.skip))))) MN))
def iS:C:=.seq N0 (.seq (.cond (.t 51) (.skip) (.exit 2)) (.seq (.block 3 (.seq ID (.seq Nu (.cond (.t 56) (.seq QQ (.ret)) (.skip))))) Pz))
@[go_sem] def mS:Fc:=⟨4,.seq Vt (.seq Vg (.seq (.seq UJ (.cond (.t 25) (.seq UT (.ret)) (.skip))) (.seq VN (.seq (.seq Vv (.block 0 (.loop [7,10,12,34,35] gc))) (.seq (.seq O7 (.block 2 (.loop [10,12,49,50] iS))) (.seq HD (.seq P2 (.ret)))))))),[.t 8,.t 9]⟩
def Ve:C:=zR [0,2] [zq 2 (.alloc false (.agg 48 (List.replicate 49 (.agg 42 [(.int .i64 0),(.int .i64 0),(.int .i64 0)]))))]
def U9:C:=zR [0,2,3] [zq 5 (.bld (.agg 48 (List.replicate 49 (.agg 42 [(.int .i64 0),(.int .i64 0),(.int .i64 0)]))) []),zq 3 (.alloc false (.agg 48 (List.replicate 49 (.agg 42 [(.int .i64 0),(.int .i64 0),(.int .i64 0)])))),zS 48 3 5]
def Uu:C:=zR [0,2,3,4] [zm 4 (zi 0)]
def Vu:C:=zR [0,2,3,4,12] [zm 6 4,zm 7 0,zB 8 .lss 6 7,zm 9 8,zg 10 9 true (.mv 4),zg 11 9 true (.bin .lss 10 (zi 49)),zP 12 9 11 (.k (.bool false))]
def Uv:C:=zR [0,2,3,4] [zm 15 4,zm 16 4,zB 17 .rem 16 (zi 4),zB 18 .add (zi 1) 17,zm 19 4,zm 20 4,zB 21 .add (zi 20) 20,zq 22 (.bld (.agg 42 [(.int .i64 0),(.int .i64 0),(.int .i64 0)]) [(0,18),(1,19),(2,21)]),zq 23 (.iad 48 49 42 3 15),zS 42 23 22]
def UE:C:=zR [0,2,3,4] [zm 13 4,zB 14 .add 13 (zi 1),zm 4 14]
def Ul:C:=zR [2] [zL 24 48 3,zS 48 2 24]
def dY:C:=.seq (.seq Vu (.cond (.t 12) (.skip) (.exit 0))) (.seq (.block 1 Uv) UE)
@[go_sem] def gD:Fc:=⟨1,.seq Ve (.seq U9 (.seq (.seq Uu (.block 0 (.loop [0,2,3,4] dY))) (.seq Ul (.ret)))),[.cell 2 48]⟩
def Wv:C:=zR [0] [zq 0 (.alloc false (.agg 50 (List.replicate 8 (.int .i64 0))))]
def V4:C:=zR [0,1] [zq 3 (.bld (.agg 50 (List.replicate 8 (.int .i64 0))) []),zq 1 (.alloc false (.agg 50 (List.replicate 8 (.int .i64 0)))),zS 50 1 3]
def Wg:C:=zR [0,1,2] [zm 2 (zi 0)]
def Wd:C:=zR [0,1,2,5] [zm 4 2,zB 5 .lss 4 (zi 8)]
def Wb:C:=zR [0,1,2] [zm 8 2,zm 9 2,zB 10 .add (zi 10) 9,zq 11 (.iad 50 8 10 1 8),zS 10 11 10]
def Wo:C:=zR [0,1,2] [zm 6 2,zB 7 .add 6 (zi 1),zm 2 7]
def Wa:C:=zR [0] [zL 12 50 1,zS 50 0 12]
def oU:C:=.seq (.seq Wd (.cond (.t 5) (.skip) (.exit 0))) (.seq (.block 1 Wb) Wo)
@[go_sem] def kD:Fc:=⟨0,.seq Wv (.seq V4 (.seq (.seq Wg (.block 0 (.loop [0,1,2] oU))) (.seq Wa (.ret)))),[.cell 0 50]⟩
def Ll:C:=zR [0,1,6,7] [zq 6 (.box false 2),zq 7 (.box false 3),zm 8 (.k .nilp),zm 9 (zi 0)]
def QC:C:=zR [0,6,7,10,11] [zm 15 1,zm 16 0,zN 17 16,zF 18 33 0 1 17,zL 19 1 18,zq 20 (.len false 19),zC 21 (zf ef) [15,20],zm 14 21,zE 22 14 0,zE 23 14 1,zm 10 22,zm 11 23]
def KB:C:=zR [0,6,7,10,25] [zm 24 11,zB 25 .neq 24 (zi 0)]
def I9:C:=zR [8,9] [zm 8 (.k .nilp),zm 9 (zi 1)]
def QJ:C:=zD [0,6,7,10,12] [zL 26 48 6,zq 27 (.callw (zf aL) [26] 7),zq 28 (.slarr 50 8 10 7 none none none),zq 29 (.app false 38 10 27 28),zm 12 29]
def Pn:C:=zR [0,6,7,10,12,13] [zm 13 (zi 0)]
def PU:C:=zR [0,6,7,10,12,13,33] [zm 30 13,zm 31 12,zq 32 (.len false 31),zB 33 .lss 30 32]
def K2:C:=zR [0,6,7,10,12,13,42] [zm 36 10,zm 37 12,zm 38 13,zq 39 (.sad 10 37 38),zL 40 10 39,zC 41 (zf br) [36,40],zB 42 .neq 41 (zi 0)]
def Lz:C:=zR [8,9] [zm 8 (.k .nilp),zm 9 (zi 21)]
def QM:C:=zR [0,6,7,10,12,13] [zm 34 13,zB 35 .add 34 (zi 1),zm 13 35]
def CC:C:=zR [8,9] [zm 43 0,zm 44 10,zL 45 48 6,zL 46 48 6,zL 47 50 7,zq 48 (.bld (.agg 31 [.nilp,.nilp,(.agg 48 (List.replicate 49 (.agg 42 [(.int .i64 0),(.int .i64 0),(.int .i64 0)]))),(.agg 48 (List.replicate 49 (.agg 42 [(.int .i64 0),(.int .i64 0),(.int .i64 0)]))),(.agg 50 (List.replicate 8 (.int .i64 0))),(.agg 48 (List.replicate 49 (.agg 42 [(.int .i64 0),(.int .i64 0),(.int .i64 0)]))),(.bool false)]) [(0,43),(1,44),(2,45),(3,46),(4,47)]),zq 49 (.box true 48),zm 8 49,zm 9 (zi 0)]
def dR:C:=.seq (.seq PU (.cond (.t 33) (.skip) (.exit 0))) (.seq (.block 1 (.seq K2 (.cond (.t 42) (.seq Lz (.ret)) (.skip)))) QM)
@[go_sem] def ji:Fc:=⟨4,.seq Ll (.seq QC (.seq (.seq KB (.cond (.t 25) (.seq I9 (.ret)) (.skip))) (.seq QJ (.seq (.seq Pn (.block 0 (.loop [0,6,7,10,12,13] dR))) (.seq CC (.ret)))))),[.t 8,.t 9]⟩
def NE:C:=zR [] [zm 4 0,zm 5 0,zm 6 1,zB 7 .geq 6 (zi 0),zm 8 1,zN 9 4,zF 10 59 2 0 9,zS 0 10 7,zN 11 5,zF 12 59 3 10 11,zS 10 12 8]
@[go_sem] def jS:Fc:=⟨2,NE,[]⟩
def Im:C:=zR [] [zm 4 0,zm 5 1,zq 6 (.mnx true 5 (zi (-1))),zN 7 4,zF 8 33 3 10 7,zS 10 8 6]
@[go_sem] def eH:Fc:=⟨2,Im,[]⟩
def NQ:C:=zR [0] [zm 2 (zi 0),zm 3 (zi 0)]
def N4:C:=zR [2,3] [zm 4 0,zN 5 4,zF 6 43 1 1 5,zL 7 1 6,zC 8 (zf bB) [7],zE 9 8 0,zE 10 8 1,zm 2 9,zm 3 10]
@[go_sem] def iH:Fc:=⟨1,.seq NQ (.seq N4 (.ret)),[.t 2,.t 3]⟩
def K6:C:=zR [0] [zm 2 (zi 0),zm 3 (zi 0)]
def N3:C:=zR [0,4] [zm 4 (zi 0)]
def P4:C:=zR [0,4,11] [zm 5 4,zm 6 0,zN 7 6,zF 8 21 1 1 7,zL 9 1 8,zq 10 (.len false 9),zB 11 .lss 5 10]
def Rj:C:=zR [0,4,21] [zm 14 0,zN 15 14,zF 16 21 1 1 15,zL 17 1 16,zm 18 4,zq 19 (.sad 10 17 18),zL 20 10 19,zB 21 .eql 20 (zi 0)]
def OF:C:=zR [0,4] [zm 22 0,zN 23 22,zF 24 21 1 1 23,zL 25 1 24,zm 26 4,zq 27 (.sad 10 25 26),zS 10 27 (zi 1)]
def Ml:C:=zR [2,3] [zm 28 0,zN 29 28,zF 30 21 0 10 29,zL 31 10 30,zm 32 4,zB 33 .add 31 32,zm 2 33,zm 3 (zi 0)]
def J2:C:=zR [0,4] [zm 12 4,zB 13 .add 12 (zi 1),zm 4 13]
def HC:C:=zR [2,3] [zm 2 (zi 0),zm 3 (zi 10)]
def bG:C:=.seq (.seq P4 (.cond (.t 11) (.skip) (.exit 0))) (.seq (.block 1 (.seq Rj (.cond (.t 21) (.seq OF (.seq Ml (.ret))) (.skip)))) J2)
@[go_sem] def ed:Fc:=⟨1,.seq K6 (.seq (.seq N3 (.block 0 (.loop [0,4] bG))) (.seq HC (.ret))),[.t 2,.t 3]⟩
def O5:C:=zR [0] [zm 2 (.k .nilp)]
def Pv:C:=zR [0,3] [zm 5 0,zN 6 5,zL 7 59 6,zq 3 (.alloc true (.agg 59 [.nils,(.bool false),(.bool false),(.int .i64 0),(.int .i64 0)])),zS 59 3 7]
def Kd:C:=zR [0,3] [zm 8 0,zN 9 8,zF 10 59 0 1 9,zL 11 1 10,zC 12 (zf eJ) [11],zF 13 59 0 1 3,zS 1 13 12]
def LB:C:=zR [0,3,16,17] [zF 14 59 0 1 3,zL 15 1 14,zq 16 (.len false 15),zm 17 (zi 0)]
def QF:C:=zR [0,3,16,17,18] [zB 18 .lss 17 16]
def Nh:C:=zR [0,3,4,16,17] [zm 19 17,zm 4 19]
def Ic:C:=zD [0,3,16,17] [zF 20 59 0 1 3,zL 21 1 20,zm 22 4,zm 23 0,zN 24 23,zF 25 59 0 1 24,zL 26 1 25,zm 27 4,zq 28 (.sad 55 26 27),zF 29 55 2 1 28,zL 30 1 29,zq 31 (.callk true (zf ec) [30]),zq 32 (.sad 55 21 22),zF 33 55 2 1 32,zS 1 33 31]
def J3:C:=zR [0,3,16,17] [zB 34 .add 17 (zi 1),zm 17 34]
def PE:C:=zR [2] [zm 2 3]
def f7:C:=.seq QF (.seq (.cond (.t 18) (.skip) (.exit 0)) (.seq (.block 1 (.seq Nh Ic)) J3))
@[go_sem] def jE:Fc:=⟨1,.seq O5 (.seq Pv (.seq Kd (.seq (.seq LB (.block 0 (.loop [0,3,16,17] f7))) (.seq PE (.ret))))),[.t 2]⟩
def K3:C:=zR [0,1] [zm 4 (.k .nilp)]
def Lt:C:=zR [0,1,5] [zm 6 0,zN 7 6,zL 8 43 7,zq 5 (.alloc true (.agg 43 [.nilp,.nilp,(.agg 48 (List.replicate 49 (.agg 42 [(.int .i64 0),(.int .i64 0),(.int .i64 0)]))),(.agg 48 (List.replicate 49 (.agg 42 [(.int .i64 0),(.int .i64 0),(.int .i64 0)]))),(.agg 50 (List.replicate 8 (.int .i64 0))),(.agg 48 (List.replicate 49 (.agg 42 [(.int .i64 0),(.int .i64 0),(.int .i64 0)]))),(.bool false),(.agg 82 (List.replicate 1024 (.bool false)))])),zS 43 5 8]
def Qn:C:=zR [5] [zm 9 1,zm 10 0,zN 11 10,zF 12 43 1 1 11,zL 13 1 12,zC 14 (zf dU) [13],zF 15 43 0 1 5,zS 1 15 9,zF 16 43 1 1 5,zS 1 16 14]
def M6:C:=zR [4] [zm 4 5]
@[go_sem] def ie:Fc:=⟨2,.seq K3 (.seq Lt (.seq Qn (.seq M6 (.ret)))),[.t 4]⟩
def R0:C:=zR [0,1] [zm 4 (zi 0),zm 5 (zi 0)]
def Jz:C:=zR [0,1,6,7,8] [zm 11 0,zm 12 1,zC 13 (zf bL) [11,12],zm 10 13,zE 14 10 0,zE 15 10 1,zE 16 10 2,zm 6 14,zm 7 15,zm 8 16]
def RU:C:=zR [0,1,6,7,8,18] [zm 17 8,zB 18 .neq 17 (zi 0)]
def Kc:C:=zR [4,5] [zm 19 8,zm 4 (zi 0),zm 5 19]
def Ky:C:=zR [0,1,6,7,8,9] [zm 21 0,zq 22 (.bld (.agg 24 (List.replicate 8 (.int .u64 0))) []),zC 23 (zf dB) [21,22],zm 20 23,zE 24 20 0,zE 25 20 1,zm 9 24,zm 8 25]
def P5:C:=zR [0,1,6,7,8,9,27] [zm 26 8,zB 27 .neq 26 (zi 0)]
def O1:C:=zR [4,5] [zm 28 8,zm 4 (zi 0),zm 5 28]
def KI:C:=zR [6] [zm 29 0,zm 30 6,zm 31 1,zm 32 7,zm 33 9,zq 34 (.bld (.agg 42 [(.int .i64 0),(.int .i64 0),(.int .i64 0)]) [(0,31),(1,32),(2,33)]),zN 35 29,zF 36 43 2 48 35,zq 37 (.iad 48 49 42 36 30),zS 42 37 34]
def OM:C:=zR [4,5] [zm 38 6,zm 4 38,zm 5 (zi 0)]
@[go_sem] def iE:Fc:=⟨2,.seq R0 (.seq Jz (.seq (.seq RU (.cond (.t 18) (.seq Kc (.ret)) (.skip))) (.seq Ky (.seq (.seq P5 (.cond (.t 27) (.seq O1 (.ret)) (.skip))) (.seq KI (.seq OM (.ret))))))),[.t 4,.t 5]⟩
def Qz:C:=zR [0,1,2,3] [zm 8 (zi 0)]
def Oh:C:=zR [0,1,2,3,9] [zm 12 0,zm 13 1,zC 14 (zf bf) [12,13],zm 9 14]
def M8:C:=zR [0,1,2,3,9,15] [zm 16 9,zB 17 .eql 16 (zi 1),zm 15 17]
def NJ:C:=zR [0,1,2,3,9,15] [zm 18 2,zB 19 .lss 18 (zi 0),zm 15 19]
def NZ:C:=zR [0,1,2,3,9,15] [zm 20 2,zB 21 .geq 20 (zi 8),zm 15 21]
def Lv:C:=zR [8] [zm 8 (zi 1)]
def OU:C:=zR [0,1,2,3,9,22] [zm 23 9,zB 24 .neq 23 (zi 0),zm 22 24]
def Nn:C:=zR [8] [zm 25 9,zm 8 25]
def KY:C:=zR [0,1,2,3,26] [zm 27 0,zm 28 1,zC 29 (zf bw) [27,28],zm 26 29]
def Lo:C:=zD [8] [zm 30 0,zN 31 30,zF 32 43 0 1 31,zL 33 1 32,zm 34 0,zm 35 1,zN 36 34,zF 37 43 2 48 36,zq 38 (.iad 48 49 42 37 35),zF 39 42 2 10 38,zL 40 10 39,zm 41 2,zm 42 3,zC 43 (zf dV) [33,40,41,42],zm 8 43]
def Dr:C:=zR [0,1,2,3,44] [zm 45 0,zN 46 45,zF 47 43 1 1 46,zL 48 1 47,zC 49 (zf bp) [48],zB 50 .eql 49 (zi 0),zm 44 50]
def EP:C:=zR [8] [zm 8 (zi 10)]
def DT:C:=zD [0,1,2,3,9,10] [zm 52 0,zN 53 52,zF 54 43 0 1 53,zL 55 1 54,zm 56 0,zm 57 1,zN 58 56,zF 59 43 2 48 58,zq 60 (.iad 48 49 42 59 57),zF 61 42 2 10 60,zL 62 10 61,zq 63 (.pcall (zf cA) [55,62]),zm 51 63,zE 64 51 0,zE 65 51 1,zq 10 (.alloc false (.agg 24 (List.replicate 8 (.int .u64 0)))),zS 24 10 64,zm 9 65]
def E3:C:=zR [0,1,2,3,9,10,67] [zm 66 9,zB 67 .neq 66 (zi 0)]
def Dz:C:=zR [8] [zm 68 9,zm 8 68]
def CE:C:=zR [0,1,10] [zm 69 2,zm 70 3,zq 71 (.iad 24 8 18 10 69),zS 18 71 70]
def Cp:C:=zR [0,1,9,11] [zm 73 0,zL 74 24 10,zC 75 (zf dB) [73,74],zm 72 75,zE 76 72 0,zE 77 72 1,zm 11 76,zm 9 77]
def D3:C:=zR [0,1,9,11,79] [zm 78 9,zB 79 .neq 78 (zi 0)]
def Eu:C:=zR [8] [zm 80 9,zm 8 80]
def Dp:C:=zR [] [zm 81 0,zm 82 1,zm 83 11,zN 84 81,zF 85 43 2 48 84,zq 86 (.iad 48 49 42 85 82),zF 87 42 2 10 86,zS 10 87 83]
def CQ:C:=zR [8] [zm 8 (zi 0)]
@[go_sem] def jh:Fc:=⟨4,.seq Qz (.seq Oh (.seq (.block 0 (.seq (.seq M8 (.cond (.t 15) (.skip) (.seq NJ (.cond (.t 15) (.skip) NZ)))) (.cond (.t 15) (.seq Lv (.ret)) (.seq OU (.cond (.t 22) (.seq Nn (.ret)) (.seq KY (.cond (.t 26) (.seq Lo (.ret)) (.seq Dr (.cond (.t 44) (.seq EP (.ret)) (.skip)))))))))) (.seq DT (.seq (.seq E3 (.cond (.t 67) (.seq Dz (.ret)) (.skip))) (.seq CE (.seq Cp (.seq (.seq D3 (.cond (.t 79) (.seq Eu (.ret)) (.skip))) (.seq Dp (.seq CQ (.ret)))))))))),[.t 8]⟩
def Lb:C:=zR [0] [zm 2 (zi 0)]
def LK:C:=zR [0,6] [zm 3 0,zN 4 3,zF 5 43 6 0 4,zL 6 0 5]
def Hx:C:=zR [2] [zm 2 (zi 3)]
def OQ:C:=zR [0] [zm 7 0,zm 8 0,zm 9 0,zN 10 9,zF 11 43 2 48 10,zL 12 48 11,zN 13 7,zF 14 43 5 48 13,zS 48 14 12,zN 15 8,zF 16 43 6 0 15,zS 0 16 (.k (.bool true))]
def Ln:C:=zR [] [zm 17 0,zC 18 (zf bD) [17]]
def Kz:C:=zR [2] [zm 2 (zi 0)]
@[go_sem] def iO:Fc:=⟨1,.seq Lb (.seq (.seq LK (.cond (.t 6) (.seq Hx (.ret)) (.skip))) (.seq OQ (.seq Ln (.seq Kz (.ret))))),[.t 2]⟩
def QW:C:=zR [0,1,3,6] [zq 6 (.box false 2),zm 8 (.k (.bool false))]
def IE:C:=zR [0,1,3,6,9] [zC 16 (zf bq) [],zq 9 (.alloc false (.agg 50 (List.replicate 8 (.int .i64 0)))),zS 50 9 16]
def KC:C:=zR [0,1,3,6,9,10] [zm 10 (zi 0)]
def Oz:C:=zR [0,1,3,6,9,10,18] [zm 17 10,zB 18 .lss 17 (zi 8)]
def PI:C:=zR [0,1,3,6,9,10] [zm 21 10,zF 22 54 1 10 6,zL 23 10 22,zC 24 (zf aC) [23,(zi 60)],zm 25 10,zB 26 .add 24 25,zq 27 (.iad 50 8 10 9 21),zS 10 27 26]
def NH:C:=zR [0,1,3,6,9,10,30] [zm 28 3,zq 29 (.len false 28),zB 30 .geq 29 (zi 8)]
def It:C:=zR [0,1,3,6,9,10] [zm 31 10,zm 32 3,zm 33 3,zq 34 (.len false 33),zB 35 .sub 34 (zi 8),zm 36 10,zB 37 .add 35 36,zq 38 (.sad 10 32 37),zL 39 10 38,zq 40 (.iad 50 8 10 9 31),zS 10 40 39]
def Ly:C:=zR [0,1,3,6,9,10] [zm 19 10,zB 20 .add 19 (zi 1),zm 10 20]
def Kh:C:=zR [0,1,6,9,43] [zF 41 54 0 10 6,zL 42 10 41,zC 43 (zf aC) [42,(zi 12)]]
def ND:C:=zR [0,1,6,9,43,44] [zB 45 .eql 43 (zi 0),zm 44 45]
def CG:C:=zR [0,1,6,9,43,44] [zB 46 .eql 43 (zi 1),zm 44 46]
def Ch:C:=zR [0,1,6,9,43,44] [zB 47 .eql 43 (zi 2),zm 44 47]
def EE:C:=zR [0,1,6,9,43,44] [zB 48 .eql 43 (zi 3),zm 44 48]
def Ej:C:=zD [8] [zm 49 0,zF 50 54 1 10 6,zL 51 10 50,zF 52 54 2 10 6,zL 53 10 52,zF 54 54 3 18 6,zL 55 18 54,zq 56 (.callk false (zf bU) [49,51,53,55]),zm 57 1,zF 58 54 1 10 6,zq 59 (.ldl 10 58),zF 60 54 2 10 6,zq 61 (.ldl 10 60),zF 62 54 3 18 6,zq 63 (.ldl 18 62),zC 64 (zf dK) [57,59,61,63],zB 65 .eql 56 64,zm 8 65]
def EV:C:=zR [0,1,6,9,43,66] [zB 67 .eql 43 (zi 4),zm 66 67]
def Dk:C:=zR [1,6,11,12] [zm 69 0,zF 70 54 2 10 6,zL 71 10 70,zC 72 (zf cn) [69,71],zm 68 72,zE 73 68 0,zE 74 68 1,zm 11 73,zm 12 74]
def Cv:C:=zR [11,12,13,14] [zm 76 1,zF 77 54 2 10 6,zL 78 10 77,zC 79 (zf dq) [76,78],zm 75 79,zE 80 75 0,zE 81 75 1,zm 13 80,zm 14 81]
def DX:C:=zR [8] [zm 82 11,zm 83 13,zB 84 .eql 82 83,zm 85 84,zg 86 85 true (.mv 12),zg 87 85 true (.mv 14),zg 88 85 true (.bin .eql 86 87),zP 89 85 88 (.k (.bool false)),zm 8 89]
def DC:C:=zR [0,1,6,9,43,90] [zB 91 .eql 43 (zi 5),zm 90 91]
def CU:C:=zD [8] [zm 92 0,zF 93 54 1 10 6,zL 94 10 93,zq 95 (.callk false (zf gt) [92,94]),zm 96 1,zF 97 54 1 10 6,zq 98 (.ldl 10 97),zC 99 (zf dN) [96,98],zB 100 .eql 95 99,zm 8 100]
def Fb:C:=zR [0,1,6,9,43,101] [zB 102 .eql 43 (zi 6),zm 101 102]
def C9:C:=zR [8] [zm 103 0,zC 104 (zf da) [103],zm 105 1,zC 106 (zf dv) [105],zB 107 .eql 104 106,zm 8 107]
def Ca:C:=zR [0,1,6,9,43,108] [zB 109 .eql 43 (zi 8),zm 108 109]
def EO:C:=zD [8] [zm 110 0,zL 111 50 9,zq 112 (.callk false (zf eY) [110,111]),zm 113 1,zq 114 (.ldl 50 9),zC 115 (zf cJ) [113,114],zB 116 .eql 112 115,zm 8 116]
def Dj:C:=zR [0,1,6,43,117] [zB 118 .eql 43 (zi 9),zm 117 118]
def Da:C:=zR [8] [zm 119 0,zC 120 (zf fM) [119],zm 121 1,zC 122 (zf cZ) [121],zB 123 .eql 120 122,zm 8 123]
def Em:C:=zR [0,1,6,124] [zB 125 .eql 43 (zi 10),zm 124 125]
def EA:C:=zR [0,1,6,15] [zF 126 54 3 18 6,zL 127 18 126,zB 128 .rem 127 (.k (.int .u64 100)),zq 129 (.conv .i64 128),zm 15 129]
def CM:C:=zD [8] [zm 130 0,zF 131 54 1 10 6,zL 132 10 131,zF 133 54 2 10 6,zL 134 10 133,zF 135 54 1 10 6,zL 136 10 135,zq 137 (.bsl true 38 10 (.int .i64 0) 3 [(0,132),(1,134),(2,136)]),zm 138 15,zq 139 (.pcall (zf cY) [130,137,138]),zm 140 1,zF 141 54 1 10 6,zL 142 10 141,zF 143 54 2 10 6,zL 144 10 143,zF 145 54 1 10 6,zL 146 10 145,zq 147 (.bsl false 38 10 (.int .i64 0) 3 [(0,142),(1,144),(2,146)]),zm 148 15,zC 149 (zf bE) [140,147,148],zq 150 (.eq false 0 139 149),zm 151 150,zg 152 151 true (.mv 0),zg 153 151 true (.pcall (zf cY) [152,(.k .nils),(zi (-1))]),zg 154 151 true (.mv 1),zg 155 151 true (.call (zf bE) [154,(.k .nils),(zi (-1))]),zg 156 151 true (.eq false 0 153 155),zP 157 151 156 (.k (.bool false)),zm 8 157]
def EI:C:=zR [8] [zm 8 (.k (.bool true))]
def dm:C:=.seq (.seq Oz (.cond (.t 18) (.skip) (.exit 0))) (.seq (.block 1 (.seq PI (.seq NH (.cond (.t 30) It (.skip))))) Ly)
@[go_sem] def ir:Fc:=⟨4,.seq QW (.seq IE (.seq (.seq KC (.block 0 (.loop [0,1,3,6,9,10] dm))) (.seq (.seq Kh (.block 2 (.seq (.seq ND (.cond (.t 44) (.skip) (.seq CG (.cond (.t 44) (.skip) (.seq Ch (.cond (.t 44) (.skip) EE)))))) (.cond (.t 44) (.seq Ej (.ret)) (.seq EV (.cond (.t 66) (.seq Dk (.seq Cv (.seq DX (.ret)))) (.seq DC (.cond (.t 90) (.seq CU (.ret)) (.seq Fb (.cond (.t 101) (.seq C9 (.ret)) (.seq Ca (.cond (.t 108) (.seq EO (.ret)) (.seq Dj (.cond (.t 117) (.seq Da (.ret)) (.seq Em (.cond (.t 124) (.seq EA (.seq CM (.ret))) (.skip))))))))))))))))) (.seq EI (.ret))))),[.t 8]⟩
def Qr:C:=zR [0,1,4] [zq 4 (.alloc false (.agg 26 [(.int .i64 0),(.int .i64 0),(.agg 24 (List.replicate 8 (.int .u64 0)))])),zm 5 (zi 0)]
def PX:C:=zR [0,1,4,6] [zm 10 0,zm 11 1,zC 12 (zf bf) [10,11],zm 6 12]
def Jf:C:=zR [0,1,4,6,14] [zm 13 6,zB 14 .neq 13 (zi 0)]
def Oc:C:=zR [4,5] [zq 15 (.bld (.agg 26 [(.int .i64 0),(.int .i64 0),(.agg 24 (List.replicate 8 (.int .u64 0)))]) []),zm 16 6,zS 26 4 15,zm 5 16]
def Qg:C:=zR [0,4,7] [zm 17 0,zm 18 1,zN 19 17,zF 20 43 2 48 19,zq 21 (.iad 48 49 42 20 18),zL 22 42 21,zq 7 (.alloc false (.agg 42 [(.int .i64 0),(.int .i64 0),(.int .i64 0)])),zS 42 7 22]
def M5:C:=zD [4,7,8,9] [zm 24 0,zN 25 24,zF 26 43 0 1 25,zL 27 1 26,zF 28 42 2 10 7,zL 29 10 28,zq 30 (.pcall (zf cA) [27,29]),zm 23 30,zE 31 23 0,zE 32 23 1,zq 8 (.alloc false (.agg 24 (List.replicate 8 (.int .u64 0)))),zS 24 8 31,zm 9 32]
def Ju:C:=zR [4,7,8,9,34] [zm 33 9,zB 34 .neq 33 (zi 0)]
def JC:C:=zR [4,5] [zq 35 (.bld (.agg 26 [(.int .i64 0),(.int .i64 0),(.agg 24 (List.replicate 8 (.int .u64 0)))]) []),zm 36 9,zS 26 4 35,zm 5 36]
def Kr:C:=zR [4,5] [zF 37 42 0 10 7,zL 38 10 37,zF 39 42 1 10 7,zL 40 10 39,zL 41 24 8,zq 42 (.bld (.agg 26 [(.int .i64 0),(.int .i64 0),(.agg 24 (List.replicate 8 (.int .u64 0)))]) [(0,38),(1,40),(2,41)]),zS 26 4 42,zm 5 (zi 0)]
@[go_sem] def jo:Fc:=⟨2,.seq Qr (.seq (.seq PX (.seq Jf (.cond (.t 14) (.seq Oc (.ret)) (.skip)))) (.seq Qg (.seq M5 (.seq (.seq Ju (.cond (.t 34) (.seq JC (.ret)) (.skip))) (.seq Kr (.ret)))))),[.cell 4 26,.t 5]⟩
def HE:C:=zR [0,1,4] [zq 4 (.alloc false (.agg 26 [(.int .i64 0),(.int .i64 0),(.agg 24 (List.replicate 8 (.int .u64 0)))])),zm 5 (zi 0)]
def Of:C:=zR [0,1,4,6] [zm 8 0,zm 9 1,zC 10 (zf aX) [8,9],zm 6 10]
def JO:C:=zR [0,1,4,6,12] [zm 11 6,zB 12 .neq 11 (zi 0)]
def Qc:C:=zR [4,5] [zq 13 (.bld (.agg 26 [(.int .i64 0),(.int .i64 0),(.agg 24 (List.replicate 8 (.int .u64 0)))]) []),zm 14 6,zS 26 4 13,zm 5 14]
def LN:C:=zD [0,1,4,6,7] [zm 16 0,zN 17 16,zF 18 31 0 1 17,zL 19 1 18,zm 20 0,zm 21 1,zN 22 20,zF 23 31 2 48 22,zq 24 (.iad 48 49 42 23 21),zF 25 42 2 10 24,zL 26 10 25,zq 27 (.pcall (zf aW) [19,26]),zm 15 27,zE 28 15 0,zE 29 15 1,zq 7 (.alloc false (.agg 24 (List.replicate 8 (.int .u64 0)))),zS 24 7 28,zm 6 29]
def Hq:C:=zR [0,1,4,6,7,31] [zm 30 6,zB 31 .neq 30 (zi 0)]
def HJ:C:=zR [4,5] [zq 32 (.bld (.agg 26 [(.int .i64 0),(.int .i64 0),(.agg 24 (List.replicate 8 (.int .u64 0)))]) []),zm 33 6,zS 26 4 32,zm 5 33]
def NF:C:=zD [4,5] [zm 34 0,zm 35 1,zN 36 34,zF 37 31 2 48 36,zq 38 (.iad 48 49 42 37 35),zF 39 42 0 10 38,zL 40 10 39,zm 41 0,zm 42 1,zN 43 41,zF 44 31 2 48 43,zq 45 (.iad 48 49 42 44 42),zF 46 42 1 10 45,zL 47 10 46,zL 48 24 7,zq 49 (.bld (.agg 26 [(.int .i64 0),(.int .i64 0),(.agg 24 (List.replicate 8 (.int .u64 0)))]) [(0,40),(1,47),(2,48)]),zS 26 4 49,zm 5 (zi 0)]
@[go_sem] def fz:Fc:=⟨2,.seq HE (.seq Of (.seq (.seq JO (.cond (.t 12) (.seq Qc (.ret)) (.skip))) (.seq LN (.seq (.seq Hq (.cond (.t 31) (.seq HJ (.ret)) (.skip))) (.seq NF (.ret)))))),[.cell 4 26,.t 5]⟩
def OP:C:=zR [0,1] [zm 4 (zi 0),zm 5 (zi 0)]
def I2:C:=zR [0,1,6,7] [zm 10 1,zC 11 (zf ky) [10],zm 9 11,zE 12 9 0,zE 13 9 1,zq 6 (.alloc false (.agg 40 [(.int .i64 0),(.int .i64 0),(.int .i64 0),(.int .i64 0),(.int .i64 0)])),zS 40 6 12,zm 7 13]
def Pb:C:=zR [0,1,6,15] [zm 14 7,zq 15 (.un .not 14)]
def Nr:C:=zR [4,5] [zm 4 (zi 0),zm 5 (zi 31)]
def LF:C:=zD [6,8] [zm 16 0,zF 17 40 2 10 6,zL 18 10 17,zN 19 16,zF 20 43 2 48 19,zq 21 (.iad 48 49 42 20 18),zL 22 42 21,zF 23 40 2 10 6,zL 24 10 23,zm 25 1,zq 26 (.pcall (zf kj) [22,24,25]),zm 8 26]
def I3:C:=zR [6,8,28] [zm 27 8,zB 28 .neq 27 (zi 0)]
def PZ:C:=zR [4,5] [zm 29 8,zm 4 (zi 0),zm 5 29]
def Ry:C:=zR [4,5] [zF 30 40 2 10 6,zL 31 10 30,zm 4 31,zm 5 (zi 0)]
@[go_sem] def ip:Fc:=⟨2,.seq OP (.seq I2 (.seq (.seq Pb (.cond (.t 15) (.seq Nr (.ret)) (.skip))) (.seq (.seq LF (.seq I3 (.cond (.t 28) (.seq PZ (.ret)) (.skip)))) (.seq Ry (.ret))))),[.t 4,.t 5]⟩
def IU:C:=zR [0,1] [zm 4 (zi 0),zm 5 (zi 0)]
def Pf:C:=zR [0,1,6,7] [zm 10 1,zC 11 (zf dA) [10],zm 9 11,zE 12 9 0,zE 13 9 1,zq 6 (.alloc false (.agg 40 [(.int .i64 0),(.int .i64 0),(.int .i64 0),(.int .i64 0),(.int .i64 0)])),zS 40 6 12,zm 7 13]
def RA:C:=zR [0,1,6,15] [zm 14 7,zq 15 (.un .not 14)]
def MF:C:=zR [4,5] [zm 4 (zi 0),zm 5 (zi 31)]
def OX:C:=zD [6,8] [zm 16 0,zF 17 40 2 10 6,zL 18 10 17,zN 19 16,zF 20 31 2 48 19,zq 21 (.iad 48 49 42 20 18),zL 22 42 21,zF 23 40 2 10 6,zL 24 10 23,zm 25 1,zq 26 (.pcall (zf eZ) [22,24,25]),zm 8 26]
def NW:C:=zR [6,8,28] [zm 27 8,zB 28 .neq 27 (zi 0)]
def RR:C:=zR [4,5] [zm 29 8,zm 4 (zi 0),zm 5 29]
def P9:C:=zR [4,5] [zF 30 40 2 10 6,zL 31 10 30,zm 4 31,zm 5 (zi 0)]
@[go_sem] def eB:Fc:=⟨2,.seq IU (.seq Pf (.seq (.seq RA (.cond (.t 15) (.seq MF (.ret)) (.skip))) (.seq OX (.seq (.seq NW (.cond (.t 28) (.seq RR (.ret)) (.skip))) (.seq P9 (.ret)))))),[.t 4,.t 5]⟩
def MJ:C:=zR [0,1] [zm 4 (zi 0),zm 5 (zi 0),zm 6 (zi 0)]
def RC:C:=zR [0,9] [zm 9 1]
def LX:C:=zR [0,9,10] [zB 11 .eql 9 (zi 1),zm 10 11]
def KT:C:=zR [0,9,10] [zB 12 .eql 9 (zi 2),zm 10 12]
def Pm:C:=zR [0,10] [zB 13 .eql 9 (zi 4),zm 10 13]
def MD:C:=zR [4,5,6] [zm 4 (zi 0),zm 5 (zi 0),zm 6 (zi 1)]
def RE:C:=zR [17,18] [zm 14 0,zN 15 14,zF 16 43 2 48 15,zL 17 48 16,zm 18 (zi 0)]
def HL:C:=zR [17,18,19] [zB 19 .lss 18 (zi 49)]
def Kf:C:=zR [7,8,17,18] [zm 20 18,zq 21 (.idx 48 49 17 18),zq 8 (.alloc false (.agg 42 [(.int .i64 0),(.int .i64 0),(.int .i64 0)])),zm 7 20,zS 42 8 21]
def RM:C:=zR [7,8,17,18,23] [zL 22 42 8,zC 23 (zf kK) [22]]
def Cg:C:=zD [4,5,6] [zm 24 7,zF 25 42 1 10 8,zL 26 10 25,zm 4 24,zm 5 26,zm 6 (zi 0)]
def DF:C:=zR [17,18] [zB 27 .add 18 (zi 1),zm 18 27]
def D5:C:=zR [4,5,6] [zm 4 (zi 0),zm 5 (zi 0),zm 6 (zi 34)]
def bP:C:=.seq HL (.seq (.cond (.t 19) (.skip) (.exit 1)) (.seq (.block 2 (.seq Kf (.seq RM (.cond (.t 23) (.seq Cg (.ret)) (.skip))))) DF))
@[go_sem] def iI:Fc:=⟨2,.seq MJ (.seq (.seq RC (.block 0 (.seq (.seq LX (.cond (.t 10) (.skip) (.seq KT (.cond (.t 10) (.skip) Pm)))) (.cond (.t 10) (.skip) (.seq MD (.ret)))))) (.seq (.seq RE (.block 1 (.loop [17,18] bP))) (.seq D5 (.ret)))),[.t 4,.t 5,.t 6]⟩
def Ik:C:=zR [0,1] [zm 4 (zi 0),zm 5 (zi 0),zm 6 (zi 0)]
def Jw:C:=zR [0,17] [zm 8 1,zB 9 .neq 8 (zi 1),zm 10 9,zg 11 10 true (.mv 1),zg 12 10 true (.bin .neq 11 (zi 2)),zP 13 10 12 (.k (.bool false)),zm 14 13,zg 15 14 true (.mv 1),zg 16 14 true (.bin .neq 15 (zi 4)),zP 17 14 16 (.k (.bool false))]
def Q3:C:=zR [4,5,6] [zm 4 (zi 0),zm 5 (zi 0),zm 6 (zi 1)]
def Qj:C:=zR [0,7] [zm 7 (zi 0)]
def Hy:C:=zR [0,7,19] [zm 18 7,zB 19 .lss 18 (zi 49)]
def KE:C:=zR [0,7,28] [zm 22 0,zm 23 7,zN 24 22,zF 25 31 2 48 24,zq 26 (.iad 48 49 42 25 23),zL 27 42 26,zC 28 (zf fJ) [27]]
def HO:C:=zD [4,5,6] [zm 29 7,zm 30 0,zm 31 7,zN 32 30,zF 33 31 2 48 32,zq 34 (.iad 48 49 42 33 31),zF 35 42 1 10 34,zL 36 10 35,zm 4 29,zm 5 36,zm 6 (zi 0)]
def LD:C:=zR [0,7] [zm 20 7,zB 21 .add 20 (zi 1),zm 7 21]
def MB:C:=zR [4,5,6] [zm 4 (zi 0),zm 5 (zi 0),zm 6 (zi 34)]
def a8:C:=.seq (.seq Hy (.cond (.t 19) (.skip) (.exit 0))) (.seq (.block 1 (.seq KE (.cond (.t 28) (.seq HO (.ret)) (.skip)))) LD)
@[go_sem] def eS:Fc:=⟨2,.seq Ik (.seq (.seq Jw (.cond (.t 17) (.seq Q3 (.ret)) (.skip))) (.seq (.seq Qj (.block 0 (.loop [0,7] a8))) (.seq MB (.ret)))),[.t 4,.t 5,.t 6]⟩
def HT:C:=zR [0,1] [zm 4 (.k (.bool false))]
def O4:C:=zR [0,1,5,6] [zm 10 0,zC 11 (zf fV) [10],zm 9 11,zE 12 9 0,zE 13 9 1,zq 5 (.alloc false (.agg 48 (List.replicate 49 (.agg 42 [(.int .i64 0),(.int .i64 0),(.int .i64 0)])))),zq 6 (.alloc false (.agg 50 (List.replicate 8 (.int .i64 0)))),zS 48 5 12,zS 50 6 13]
def Kk:C:=zR [0,1,5,6,7,8] [zm 15 0,zC 16 (zf eX) [15],zm 14 16,zE 17 14 0,zE 18 14 1,zq 7 (.alloc false (.agg 48 (List.replicate 49 (.agg 42 [(.int .i64 0),(.int .i64 0),(.int .i64 0)])))),zS 48 7 17,zm 8 18]
def Ix:C:=zD [4] [zm 19 0,zq 20 (.pcall (zf cG) [19]),zm 21 1,zN 22 21,zF 23 31 2 48 22,zL 24 48 23,zq 25 (.eq false 48 20 24),zm 26 25,zg 27 26 true (.ld 48 5),zg 28 26 true (.mv 1),zg 29 26 true (.nilc 28),zg 30 26 true (.fad 31 3 48 29),zg 31 26 true (.ld 48 30),zg 32 26 true (.eq false 48 27 31),zP 33 26 32 (.k (.bool false)),zm 34 33,zg 35 34 true (.ld 50 6),zg 36 34 true (.mv 1),zg 37 34 true (.nilc 36),zg 38 34 true (.fad 31 4 50 37),zg 39 34 true (.ld 50 38),zg 40 34 true (.eq false 50 35 39),zP 41 34 40 (.k (.bool false)),zm 42 41,zg 43 42 true (.mv 8),zg 44 42 true (.mv 1),zg 45 42 true (.nilc 44),zg 46 42 true (.fad 31 6 0 45),zg 47 42 true (.ld 0 46),zg 48 42 true (.eq false 0 43 47),zP 49 42 48 (.k (.bool false)),zm 50 49,zg 51 50 true (.mv 8),zg 52 50 true (.un .not 51),zg 53 50 true (.mv 52),zg 54 53 false (.ld 48 7),zg 55 53 false (.mv 1),zg 56 53 false (.nilc 55),zg 57 53 false (.fad 31 5 48 56),zg 58 53 false (.ld 48 57),zg 59 53 false (.eq false 48 54 58),zg 60 50 true (.pick 53 (.k (.bool true)) 59),zP 61 50 60 (.k (.bool false)),zm 62 61,zg 63 62 true (.mv 0),zg 64 62 true (.pcall (zf d9) [63]),zg 65 62 true (.mv 1),zg 66 62 true (.nilc 65),zg 67 62 true (.fad 31 1 1 66),zg 68 62 true (.ld 1 67),zg 69 62 true (.pcall (zf aI) [68]),zg 70 62 true (.bin .eql 64 69),zP 71 62 70 (.k (.bool false)),zm 4 71]
@[go_sem] def ig:Fc:=⟨2,.seq HT (.seq O4 (.seq Kk (.seq Ix (.ret)))),[.t 4]⟩
def Jt:C:=zR [0] [zm 2 (zi 0)]
def RQ:C:=zR [2] [zm 3 0,zN 4 3,zF 5 59 4 10 4,zL 6 10 5,zm 2 6]
@[go_sem] def jw:Fc:=⟨1,.seq Jt (.seq RQ (.ret)),[.t 2]⟩
def Qd:C:=zR [0,1,4] [zq 4 (.alloc false (.agg 24 (List.replicate 8 (.int .u64 0)))),zm 5 (zi 0)]
def Ki:C:=zR [0,4,6] [zm 7 0,zm 8 1,zC 9 (zf fH) [7,8],zm 6 9]
def JA:C:=zR [0,4,6,10] [zm 11 6,zq 12 (.eq false 1 11 (.k .nilp)),zm 10 12]
def KX:C:=zR [4,5] [zq 13 (.bld (.agg 24 (List.replicate 8 (.int .u64 0))) []),zS 24 4 13,zm 5 (zi 1)]
def Pu:C:=zR [4,6,14] [zm 15 0,zN 16 15,zF 17 59 1 0 16,zL 18 0 17,zm 14 18]
def QH:C:=zR [4,5] [zq 19 (.bld (.agg 24 (List.replicate 8 (.int .u64 0))) []),zS 24 4 19,zm 5 (zi 4)]
def Oe:C:=zR [4,5] [zm 20 6,zN 21 20,zF 22 55 0 24 21,zL 23 24 22,zS 24 4 23,zm 5 (zi 0)]
@[go_sem] def jR:Fc:=⟨2,.seq Qd (.seq Ki (.seq (.block 0 (.seq JA (.cond (.t 10) (.seq KX (.ret)) (.seq Pu (.cond (.t 14) (.seq QH (.ret)) (.skip)))))) (.seq Oe (.ret)))),[.cell 4 24,.t 5]⟩
def HI:C:=zR [0,1,4] [zq 4 (.alloc false (.agg 24 (List.replicate 8 (.int .u64 0)))),zm 5 (zi 0)]
def JW:C:=zR [0,1,4,9] [zm 6 0,zm 7 1,zC 8 (zf bH) [6,7],zq 9 (.un .not 8)]
def NY:C:=zR [4,5] [zq 10 (.bld (.agg 24 (List.replicate 8 (.int .u64 0))) []),zS 24 4 10,zm 5 (zi 1)]
def Jx:C:=zR [0,1,4,14] [zm 11 0,zN 12 11,zF 13 33 2 0 12,zL 14 0 13]
def Kl:C:=zR [4,5] [zq 15 (.bld (.agg 24 (List.replicate 8 (.int .u64 0))) []),zS 24 4 15,zm 5 (zi 4)]
def Lh:C:=zR [4,5] [zm 16 0,zm 17 1,zm 18 0,zN 19 18,zF 20 33 1 1 19,zL 21 1 20,zm 22 1,zq 23 (.sad 1 21 22),zL 24 1 23,zq 25 (.len false 24),zC 26 (zf dt) [16,17,25],zS 24 4 26,zm 5 (zi 0)]
@[go_sem] def eF:Fc:=⟨2,.seq HI (.seq (.seq JW (.cond (.t 9) (.seq NY (.ret)) (.skip))) (.seq (.seq Jx (.cond (.t 14) (.seq Kl (.ret)) (.skip))) (.seq Lh (.ret)))),[.cell 4 24,.t 5]⟩
def Pe:C:=zR [0,2] [zq 2 (.alloc false (.agg 48 (List.replicate 49 (.agg 42 [(.int .i64 0),(.int .i64 0),(.int .i64 0)]))))]
def HM:C:=zR [2] [zm 3 0,zN 4 3,zF 5 43 2 48 4,zL 6 48 5,zS 48 2 6]
@[go_sem] def ia:Fc:=⟨1,.seq Pe (.seq HM (.ret)),[.cell 2 48]⟩
def LZ:C:=zR [0] [zm 2 (.k .nilp),zm 3 (zi 0)]
def JP:C:=zR [0,11] [zm 4 0,zq 5 (.len false 4),zB 6 .lss 5 (zi 64),zm 7 6,zg 8 7 false (.mv 0),zg 9 7 false (.len false 8),zg 10 7 false (.bin .gtr 9 (zi 1024)),zP 11 7 (.k (.bool true)) 10]
def Oa:C:=zR [2,3] [zm 2 (.k .nilp),zm 3 (zi 1)]
def QN:C:=zD [2,3] [zq 12 (.bsl true 58 24 (.agg 24 (List.replicate 8 (.int .u64 0))) 0 []),zm 13 0,zq 14 (.app true 58 24 12 13),zm 15 0,zq 16 (.len false 15),zq 17 (.mksl true 53 1 .nils 16 16),zq 18 (.bld (.agg 33 [.nils,.nils,(.bool false),(.int .i64 0),(.int .i64 0)]) [(0,14),(1,17),(3,(zi (-1)))]),zq 19 (.box true 18),zm 2 19,zm 3 (zi 0)]
@[go_sem] def jf:Fc:=⟨1,.seq LZ (.seq (.seq JP (.cond (.t 11) (.seq Oa (.ret)) (.skip))) (.seq QN (.ret))),[.t 2,.t 3]⟩
def Ka:C:=zR [0,1] [zm 4 (.k .nilp),zm 5 (zi 0)]
def Mj:C:=zR [0,1,18] [zm 8 0,zB 9 .lss 8 (zi 0),zm 10 9,zg 11 10 false (.mv 0),zg 12 10 false (.mv 1),zg 13 10 false (.bin .gtr 11 12),zP 14 10 (.k (.bool true)) 13,zm 15 14,zg 16 15 false (.mv 1),zg 17 15 false (.bin .gtr 16 (zi 1024)),zP 18 15 (.k (.bool true)) 17]
def Qw:C:=zR [4,5] [zm 4 (.k .nilp),zm 5 (zi 1)]
def HQ:C:=zR [0,1,6] [zm 19 0,zm 20 1,zq 21 (.bld (.agg 80 [(.int .i64 0),(.int .i64 0),(.agg 78 (List.replicate 16 (.int .u64 0))),(.agg 78 (List.replicate 16 (.int .u64 0)))]) [(0,19),(1,20)]),zq 22 (.box true 21),zm 6 22]
def NC:C:=zR [0,6,25,26] [zm 23 1,zm 24 0,zB 25 .sub 23 24,zm 26 (zi 0)]
def Iy:C:=zR [0,6,25,26,27] [zB 27 .lss 26 25]
def MR:C:=zR [0,6,7,25,26] [zm 28 26,zm 7 28]
def O8:C:=zR [0,6,25,26] [zm 29 6,zN 30 29,zF 31 80 2 78 30,zm 32 0,zm 33 7,zB 34 .add 32 33,zC 35 (zf aY) [31,34]]
def Nf:C:=zR [0,6,25,26] [zB 36 .add 26 (zi 1),zm 26 36]
def K0:C:=zR [4,5] [zm 37 6,zm 4 37,zm 5 (zi 0)]
def jX:C:=.seq Iy (.seq (.cond (.t 27) (.skip) (.exit 0)) (.seq (.block 1 (.seq MR O8)) Nf))
@[go_sem] def mQ:Fc:=⟨2,.seq Ka (.seq (.seq Mj (.cond (.t 18) (.seq Qw (.ret)) (.skip))) (.seq HQ (.seq (.seq NC (.block 0 (.loop [0,6,25,26] jX))) (.seq K0 (.ret))))),[.t 4,.t 5]⟩
def RI:C:=zR [0] [zm 2 (zi 0)]
def Mw:C:=zR [2] [zm 3 0,zN 4 3,zF 5 59 0 1 4,zL 6 1 5,zq 7 (.len false 6),zm 2 7]
@[go_sem] def jD:Fc:=⟨1,.seq RI (.seq Mw (.ret)),[.t 2]⟩
def No:C:=zR [0,1] [zm 4 (zi 0)]
def Je:C:=zR [0,1,5] [zm 6 0,zm 7 1,zC 8 (zf cg) [6,7,(zi 0)],zm 5 8]
def Rw:C:=zR [0,1,5,10] [zm 9 5,zB 10 .eql 9 (zi 0)]
def Jv:C:=zR [5] [zm 11 0,zN 12 11,zF 13 80 2 78 12,zm 14 1,zC 15 (zf aY) [13,14]]
def Nl:C:=zR [4] [zm 16 5,zm 4 16]
@[go_sem] def iN:Fc:=⟨2,.seq No (.seq Je (.seq (.seq Rw (.cond (.t 10) Jv (.skip))) (.seq Nl (.ret)))),[.t 4]⟩
def Ks:C:=zR [0] [zm 2 0,zq 3 (.bld (.agg 82 (List.replicate 1024 (.bool false))) []),zN 4 2,zF 5 43 7 82 4,zS 82 5 3]
def I5:C:=zD [0] [zm 6 0,zN 7 6,zF 8 43 7 82 7,zm 9 0,zN 10 9,zF 11 43 3 48 10,zL 12 48 11,zC 13 (zf bx) [8,12]]
def Jo:C:=zR [0,17] [zm 14 0,zN 15 14,zF 16 43 6 0 15,zL 17 0 16]
def R3:C:=zD [] [zm 18 0,zN 19 18,zF 20 43 7 82 19,zm 21 0,zN 22 21,zF 23 43 5 48 22,zL 24 48 23,zC 25 (zf bx) [20,24]]
@[go_sem] def ib:Fc:=⟨1,.seq Ks (.seq I5 (.seq Jo (.cond (.t 17) R3 (.skip)))),[]⟩
def Oq:C:=zR [0,1] [zm 4 (.k .nilp),zm 5 (zi 0)]
def Iu:C:=zR [0,1,16] [zm 6 0,zB 7 .lss 6 (zi 0),zm 8 7,zg 9 8 false (.mv 0),zg 10 8 false (.mv 1),zg 11 8 false (.bin .gtr 9 10),zP 12 8 (.k (.bool true)) 11,zm 13 12,zg 14 13 false (.mv 1),zg 15 13 false (.bin .gtr 14 (zi 1024)),zP 16 13 (.k (.bool true)) 15]
def Iq:C:=zR [4,5] [zm 4 (.k .nilp),zm 5 (zi 1)]
def Hz:C:=zR [4,5] [zm 17 0,zm 18 1,zm 19 0,zB 20 .sub 18 19,zq 21 (.mksl true 38 10 (.int .i64 0) 20 20),zq 22 (.bld (.agg 21 [(.int .i64 0),.nils]) [(0,17),(1,21)]),zq 23 (.box true 22),zm 4 23,zm 5 (zi 0)]
@[go_sem] def iP:Fc:=⟨2,.seq Oq (.seq (.seq Iu (.cond (.t 16) (.seq Iq (.ret)) (.skip))) (.seq Hz (.ret))),[.t 4,.t 5]⟩
def KF:C:=zR [1] [zq 1 (.box false 0),zm 2 (.k .nils)]
def Id:C:=zR [1,3] [zm 3 (.k .nils)]
def K5:C:=zR [1,3,4] [zm 4 (zi 0)]
def PL:C:=zR [1,3,4,6] [zm 5 4,zB 6 .lss 5 (zi 49)]
def OG:C:=zR [1,3,4,13] [zm 9 4,zq 10 (.iad 48 49 42 1 9),zF 11 42 0 10 10,zL 12 10 11,zB 13 .neq 12 (zi 0)]
def Rk:C:=zR [1,3,4] [zm 14 3,zm 15 4,zq 16 (.iad 48 49 42 1 15),zF 17 42 2 10 16,zL 18 10 17,zq 19 (.bsl false 38 10 (.int .i64 0) 1 [(0,18)]),zq 20 (.app true 38 10 14 19),zm 3 20]
def KV:C:=zR [1,3,4] [zm 7 4,zB 8 .add 7 (zi 1),zm 4 8]
def IY:C:=zR [2] [zm 21 3,zm 2 21]
def cQ:C:=.seq (.seq PL (.cond (.t 6) (.skip) (.exit 0))) (.seq (.block 1 (.seq OG (.cond (.t 13) Rk (.skip)))) KV)
@[go_sem] def gz:Fc:=⟨1,.seq KF (.seq Id (.seq (.seq K5 (.block 0 (.loop [1,3,4] cQ))) (.seq IY (.ret)))),[.t 2]⟩
def Nk:C:=zR [0,1] [zm 4 (zi 0)]
def IX:C:=zR [4] [zm 5 0,zm 6 1,zC 7 (zf aO) [5,6,(zi 0),(zi 1)],zm 4 7]
@[go_sem] def eC:Fc:=⟨2,.seq Nk (.seq IX (.ret)),[.t 4]⟩
def PA:C:=zR [0] [zm 2 (zi 0),zm 3 (zi 0)]
def JK:C:=zR [0,10,11] [zm 7 0,zN 8 7,zF 9 80 2 78 8,zL 10 78 9,zm 11 (zi 0)]
def Ji:C:=zR [0,10,11,12] [zB 12 .lss 11 (zi 16)]
def Pt:C:=zR [0,4,5,10,11] [zm 13 11,zq 14 (.idx 78 16 10 11),zm 4 13,zm 5 14]
def IB:C:=zR [0,4,5,10,11,16] [zm 15 5,zB 16 .neq 15 (.k (.int .u64 0))]
def Qh:C:=zR [0,6] [zm 17 4,zB 18 .mul (zi 64) 17,zm 19 5,zC 20 (zf du) [19],zB 21 .add 18 20,zm 6 21]
def Rt:C:=zR [6] [zm 22 0,zN 23 22,zF 24 80 2 78 23,zm 25 6,zC 26 (zf aY) [24,25]]
def Rp:C:=zR [2,3] [zm 27 6,zm 2 27,zm 3 (zi 0)]
def Hu:C:=zR [0,10,11] [zB 28 .add 11 (zi 1),zm 11 28]
def Mp:C:=zR [2,3] [zm 2 (zi 0),zm 3 (zi 10)]
def dh:C:=.seq Ji (.seq (.cond (.t 12) (.skip) (.exit 0)) (.seq (.block 1 (.seq Pt (.seq IB (.cond (.t 16) (.seq Qh (.seq Rt (.seq Rp (.ret)))) (.skip))))) Hu))
@[go_sem] def ij:Fc:=⟨1,.seq PA (.seq (.seq JK (.block 0 (.loop [0,10,11] dh))) (.seq Mp (.ret))),[.t 2,.t 3]⟩
def R8:C:=zR [0] [zm 2 (.k .nils)]
def KS:C:=zR [0,4] [zm 3 0,zq 4 (.eq false 3 3 (.k .nils))]
def K7:C:=zR [2] [zm 2 (.k .nils)]
def IA:C:=zR [2] [zq 5 (.bsl true 57 55 (.agg 55 [(.agg 24 (List.replicate 8 (.int .u64 0))),(.agg 24 (List.replicate 8 (.int .u64 0))),.nils,(.agg 50 (List.replicate 8 (.int .i64 0)))]) 0 []),zm 6 0,zq 7 (.app true 57 55 5 6),zm 2 7]
@[go_sem] def gj:Fc:=⟨1,.seq R8 (.seq (.seq KS (.cond (.t 4) (.seq K7 (.ret)) (.skip))) (.seq IA (.ret))),[.t 2]⟩
def N5:C:=zR [0] [zm 2 (.k .nils)]
def QO:C:=zR [0,4] [zm 3 0,zq 4 (.eq false 3 3 (.k .nils))]
def K8:C:=zR [2] [zm 2 (.k .nils)]
def J1:C:=zR [2] [zq 5 (.bsl true 86 84 (.agg 84 [(.int .i64 0),(.int .u64 0)]) 0 []),zm 6 0,zq 7 (.app true 86 84 5 6),zm 2 7]
@[go_sem] def fX:Fc:=⟨1,.seq N5 (.seq (.seq QO (.cond (.t 4) (.seq K8 (.ret)) (.skip))) (.seq J1 (.ret))),[.t 2]⟩
def LG:C:=zR [0] [zm 2 (.k .nilp)]
def QS:C:=zR [3] [zm 4 0,zN 5 4,zL 6 80 5,zq 3 (.alloc true (.agg 80 [(.int .i64 0),(.int .i64 0),(.agg 78 (List.replicate 16 (.int .u64 0))),(.agg 78 (List.replicate 16 (.int .u64 0)))])),zS 80 3 6]
def R5:C:=zR [2] [zm 2 3]
@[go_sem] def iq:Fc:=⟨1,.seq LG (.seq QS (.seq R5 (.ret))),[.t 2]⟩
def Qo:C:=zR [0,3] [zq 3 (.box false 1),zm 4 (zi 0),zm 5 (zi 0)]
def RL:C:=zR [0,3,6,7] [zm 12 0,zN 13 12,zF 14 43 1 1 13,zL 15 1 14,zC 16 (zf bB) [15],zm 11 16,zE 17 11 0,zE 18 11 1,zm 6 17,zm 7 18]
def Qf:C:=zR [0,3,6,7,20] [zm 19 7,zB 20 .neq 19 (zi 0)]
def Ox:C:=zR [4,5] [zm 21 7,zm 4 (zi 0),zm 5 21]
def Rc:C:=zR [0,6,22,23] [zL 22 24 3,zm 23 (zi 0)]
def R9:C:=zR [0,6,22,23,24] [zB 24 .lss 23 (zi 8)]
def O2:C:=zR [0,6,8,9,22,23] [zm 25 23,zq 26 (.idx 24 8 22 23),zm 8 25,zm 9 26]
def Qi:C:=zR [0,6,10,22,23] [zm 27 0,zN 28 27,zF 29 43 0 1 28,zL 30 1 29,zm 31 6,zm 32 8,zm 33 9,zC 34 (zf dV) [30,31,32,33],zm 10 34]
def Oo:C:=zR [0,6,10,22,23,36] [zm 35 10,zB 36 .neq 35 (zi 0)]
def PG:C:=zR [4,5] [zm 37 10,zm 4 (zi 0),zm 5 37]
def Ey:C:=zR [0,6,22,23] [zB 38 .add 23 (zi 1),zm 23 38]
def Fl:C:=zR [4,5] [zm 39 6,zm 4 39,zm 5 (zi 0)]
def dQ:C:=.seq R9 (.seq (.cond (.t 24) (.skip) (.exit 0)) (.seq (.block 1 (.seq O2 (.seq Qi (.seq Oo (.cond (.t 36) (.seq PG (.ret)) (.skip)))))) Ey))
@[go_sem] def i9:Fc:=⟨2,.seq Qo (.seq RL (.seq (.seq Qf (.cond (.t 20) (.seq Ox (.ret)) (.skip))) (.seq (.seq Rc (.block 0 (.loop [0,6,22,23] dQ))) (.seq Fl (.ret))))),[.t 4,.t 5]⟩
def Od:C:=zR [0,1] [zm 4 (zi 0)]
def PM:C:=zR [0,1,5] [zm 6 1,zB 7 .lss 6 (zi 0),zm 5 7]
def IF:C:=zR [0,1,5] [zm 8 1,zB 9 .geq 8 (zi 49),zm 5 9]
def RK:C:=zR [4] [zm 4 (zi 1)]
def M9:C:=zR [10] [zm 11 0,zm 12 1,zN 13 11,zF 14 43 2 48 13,zq 15 (.iad 48 49 42 14 12),zF 16 42 0 10 15,zL 17 10 16,zB 18 .eql 17 (zi 0),zm 10 18]
def IG:C:=zR [4] [zm 4 (zi 30)]
def HN:C:=zR [4] [zm 4 (zi 0)]
@[go_sem] def jy:Fc:=⟨2,.seq Od (.seq (.block 0 (.seq (.seq PM (.cond (.t 5) (.skip) IF)) (.cond (.t 5) (.seq RK (.ret)) (.seq M9 (.cond (.t 10) (.seq IG (.ret)) (.skip)))))) (.seq HN (.ret))),[.t 4]⟩
def Ru:C:=zR [0,1] [zm 4 (.k (.bool false))]
def Qa:C:=zD [4] [zm 5 0,zm 6 0,zm 7 1,zN 8 6,zF 9 43 2 48 8,zq 10 (.iad 48 49 42 9 7),zF 11 42 2 10 10,zL 12 10 11,zN 13 5,zF 14 43 7 82 13,zq 15 (.iad 82 1024 0 14 12),zL 16 0 15,zq 17 (.un .not 16),zm 4 17]
@[go_sem] def jb:Fc:=⟨2,.seq Ru (.seq Qa (.ret)),[.t 4]⟩
def JS:C:=zR [0,1,2,3] [zm 8 (zi 0)]
def Ot:C:=zR [0,2,3,9] [zm 11 0,zm 12 1,zC 13 (zf fH) [11,12],zm 9 13]
def KO:C:=zR [0,2,3,9,23] [zm 14 9,zq 15 (.eq false 1 14 (.k .nilp)),zm 16 15,zg 17 16 false (.mv 2),zg 18 16 false (.bin .lss 17 (zi 0)),zP 19 16 (.k (.bool true)) 18,zm 20 19,zg 21 20 false (.mv 2),zg 22 20 false (.bin .geq 21 (zi 8)),zP 23 20 (.k (.bool true)) 22]
def QR:C:=zR [8] [zm 8 (zi 1)]
def Qm:C:=zR [2,3,9,10] [zm 24 0,zC 25 (zf ep) [24],zm 10 25]
def Lu:C:=zR [2,3,9,10,27] [zm 26 10,zB 27 .neq 26 (zi 0)]
def KQ:C:=zR [8] [zm 28 10,zm 8 28]
def Om:C:=zR [2,3,9] [zm 29 9,zm 30 2,zm 31 3,zN 32 29,zF 33 55 0 24 32,zq 34 (.iad 24 8 18 33 30),zS 18 34 31]
def IV:C:=zR [] [zm 35 9,zm 36 9,zN 37 36,zF 38 55 2 1 37,zL 39 1 38,zm 40 2,zm 41 3,zq 42 (.bld (.agg 84 [(.int .i64 0),(.int .u64 0)]) [(0,40),(1,41)]),zq 43 (.bsl false 86 84 (.agg 84 [(.int .i64 0),(.int .u64 0)]) 1 [(0,42)]),zq 44 (.app true 86 84 39 43),zN 45 35,zF 46 55 2 1 45,zS 1 46 44]
def Me:C:=zR [8] [zm 8 (zi 0)]
@[go_sem] def jx:Fc:=⟨4,.seq JS (.seq Ot (.seq (.seq KO (.cond (.t 23) (.seq QR (.ret)) (.skip))) (.seq (.seq Qm (.seq Lu (.cond (.t 27) (.seq KQ (.ret)) (.skip)))) (.seq Om (.seq IV (.seq Me (.ret))))))),[.t 8]⟩
def Hw:C:=zR [0] [zm 2 (zi 0)]
def J0:C:=zR [0,3] [zm 3 (zi 0)]
def OH:C:=zR [3,9,10] [zm 6 0,zN 7 6,zF 8 80 2 78 7,zL 9 78 8,zm 10 (zi 0)]
def HV:C:=zR [3,9,10,11] [zB 11 .lss 10 (zi 16)]
def RO:C:=zR [3,5,9,10] [zq 12 (.idx 78 16 9 10),zm 5 12]
def Lp:C:=zR [3,9,10] [zm 13 3,zm 14 5,zC 15 (zf eL) [14],zB 16 .add 13 15,zm 3 16]
def JF:C:=zR [3,9,10] [zB 17 .add 10 (zi 1),zm 10 17]
def Kw:C:=zR [2] [zm 18 3,zm 2 18]
def fa:C:=.seq HV (.seq (.cond (.t 11) (.skip) (.exit 0)) (.seq (.block 1 (.seq RO Lp)) JF))
@[go_sem] def iC:Fc:=⟨1,.seq Hw (.seq J0 (.seq (.seq OH (.block 0 (.loop [3,9,10] fa))) (.seq Kw (.ret)))),[.t 2]⟩
def IT:C:=zR [0,1,2,3] [zm 8 (zi 0)]
def Q2:C:=zR [0,1,2,3,25] [zm 12 1,zB 13 .lss 12 (zi 0),zm 14 13,zg 15 14 false (.mv 1),zg 16 14 false (.bin .geq 15 (zi 49)),zP 17 14 (.k (.bool true)) 16,zm 18 17,zg 19 18 false (.mv 2),zg 20 18 false (.bin .lss 19 (zi 0)),zP 21 18 (.k (.bool true)) 20,zm 22 21,zg 23 22 false (.mv 2),zg 24 22 false (.bin .gtr 23 (zi 7)),zP 25 22 (.k (.bool true)) 24]
def OA:C:=zR [8] [zm 8 (zi 1)]
def Kq:C:=zR [0,1,2,3,33] [zm 26 0,zm 27 1,zN 28 26,zF 29 31 2 48 28,zq 30 (.iad 48 49 42 29 27),zF 31 42 0 10 30,zL 32 10 31,zB 33 .eql 32 (zi 0)]
def Lq:C:=zR [8] [zm 8 (zi 30)]
def Ig:C:=zR [0,1,2,3,36] [zm 34 0,zm 35 1,zC 36 (zf aZ) [34,35]]
def Iv:C:=zD [8] [zm 37 0,zN 38 37,zF 39 31 0 1 38,zL 40 1 39,zm 41 0,zm 42 1,zN 43 41,zF 44 31 2 48 43,zq 45 (.iad 48 49 42 44 42),zF 46 42 2 10 45,zL 47 10 46,zm 48 2,zm 49 3,zC 50 (zf bn) [40,47,48,49],zm 8 50]
def Q4:C:=zR [0,1,2,3,56] [zm 51 0,zN 52 51,zF 53 31 1 1 52,zL 54 1 53,zC 55 (zf aI) [54],zB 56 .eql 55 (zi 0)]
def Pr:C:=zR [8] [zm 8 (zi 10)]
def Sb:C:=zD [0,1,2,3,9,10] [zm 58 0,zN 59 58,zF 60 31 0 1 59,zL 61 1 60,zm 62 0,zm 63 1,zN 64 62,zF 65 31 2 48 64,zq 66 (.iad 48 49 42 65 63),zF 67 42 2 10 66,zL 68 10 67,zq 69 (.pcall (zf aW) [61,68]),zm 57 69,zE 70 57 0,zE 71 57 1,zq 9 (.alloc false (.agg 24 (List.replicate 8 (.int .u64 0)))),zS 24 9 70,zm 10 71]
def Dg:C:=zR [0,1,2,3,9,10,73] [zm 72 10,zB 73 .neq 72 (zi 0)]
def CW:C:=zR [8] [zm 74 10,zm 8 74]
def CY:C:=zR [0,1,9] [zm 75 2,zm 76 3,zq 77 (.iad 24 8 18 9 75),zS 18 77 76]
def Dt:C:=zR [0,1,10,11] [zm 79 0,zL 80 24 9,zC 81 (zf bI) [79,80],zm 78 81,zE 82 78 0,zE 83 78 1,zm 11 82,zm 10 83]
def El:C:=zR [0,1,10,11,85] [zm 84 10,zB 85 .eql 84 (zi 0)]
def E9:C:=zR [10] [zm 86 0,zm 87 1,zm 88 11,zN 89 86,zF 90 31 2 48 89,zq 91 (.iad 48 49 42 90 87),zF 92 42 2 10 91,zS 10 92 88]
def DP:C:=zR [8] [zm 93 10,zm 8 93]
@[go_sem] def ft:Fc:=⟨4,.seq IT (.seq (.seq Q2 (.cond (.t 25) (.seq OA (.ret)) (.skip))) (.seq (.seq Kq (.cond (.t 33) (.seq Lq (.ret)) (.skip))) (.seq (.seq Ig (.cond (.t 36) (.seq Iv (.ret)) (.skip))) (.seq (.seq Q4 (.cond (.t 56) (.seq Pr (.ret)) (.skip))) (.seq Sb (.seq (.seq Dg (.cond (.t 73) (.seq CW (.ret)) (.skip))) (.seq CY (.seq Dt (.seq (.seq El (.cond (.t 85) E9 (.skip))) (.seq DP (.ret))))))))))),[.t 8]⟩
def LM:C:=zR [0,1] [zm 4 (zi 0),zm 5 (zi 0)]
def Ia:C:=zR [0,1,6,7,8] [zm 11 0,zm 12 1,zC 13 (zf bA) [11,12],zm 10 13,zE 14 10 0,zE 15 10 1,zE 16 10 2,zm 6 14,zm 7 15,zm 8 16]
def N2:C:=zR [0,1,6,7,8,18] [zm 17 8,zB 18 .neq 17 (zi 0)]
def KH:C:=zR [4,5] [zm 19 8,zm 4 (zi 0),zm 5 19]
def J4:C:=zR [0,1,6,7,8,9] [zm 21 0,zq 22 (.bld (.agg 24 (List.replicate 8 (.int .u64 0))) []),zC 23 (zf bI) [21,22],zm 20 23,zE 24 20 0,zE 25 20 1,zm 9 24,zm 8 25]
def Jr:C:=zR [0,1,6,7,8,9,27] [zm 26 8,zB 27 .neq 26 (zi 0)]
def PF:C:=zR [4,5] [zm 28 8,zm 4 (zi 0),zm 5 28]
def JV:C:=zR [6] [zm 29 0,zm 30 6,zm 31 1,zm 32 7,zm 33 9,zq 34 (.bld (.agg 42 [(.int .i64 0),(.int .i64 0),(.int .i64 0)]) [(0,31),(1,32),(2,33)]),zN 35 29,zF 36 31 2 48 35,zq 37 (.iad 48 49 42 36 30),zS 42 37 34]
def KD:C:=zR [4,5] [zm 38 6,zm 4 38,zm 5 (zi 0)]
@[go_sem] def eU:Fc:=⟨2,.seq LM (.seq Ia (.seq (.seq N2 (.cond (.t 18) (.seq KH (.ret)) (.skip))) (.seq J4 (.seq (.seq Jr (.cond (.t 27) (.seq PF (.ret)) (.skip))) (.seq JV (.seq KD (.ret))))))),[.t 4,.t 5]⟩
def J7:C:=zR [0,1] [zm 4 (zi 0)]
def RD:C:=zR [0,1,5] [zm 6 0,zm 7 1,zC 8 (zf bf) [6,7],zm 5 8]
def Ra:C:=zR [0,1,5,10] [zm 9 5,zB 10 .neq 9 (zi 0)]
def QZ:C:=zR [4] [zm 11 5,zm 4 11]
def Ms:C:=zR [0,1,14] [zm 12 0,zm 13 1,zC 14 (zf bw) [12,13]]
def PD:C:=zD [0,1] [zm 15 0,zN 16 15,zF 17 43 1 1 16,zL 18 1 17,zm 19 0,zm 20 1,zN 21 19,zF 22 43 2 48 21,zq 23 (.iad 48 49 42 22 20),zF 24 42 2 10 23,zL 25 10 24,zC 26 (zf cT) [18,25]]
def Lk:C:=zD [] [zm 28 0,zm 29 1,zm 30 0,zm 31 1,zN 32 30,zF 33 43 2 48 32,zq 34 (.iad 48 49 42 33 31),zL 35 42 34,zq 36 (.pcall (zf mi) [35]),zm 27 36,zE 37 27 0,zE 38 27 1,zN 39 28,zF 40 43 2 48 39,zq 41 (.iad 48 49 42 40 29),zS 42 41 37]
def Rz:C:=zR [4] [zm 4 (zi 0)]
@[go_sem] def ja:Fc:=⟨2,.seq J7 (.seq (.seq RD (.seq Ra (.cond (.t 10) (.seq QZ (.ret)) (.skip)))) (.seq (.seq Ms (.cond (.t 14) PD (.skip))) (.seq Lk (.seq Rz (.ret))))),[.t 4]⟩
def Io:C:=zR [0,1] [zm 4 (zi 0)]
def NX:C:=zR [0,1,5] [zm 8 0,zm 9 1,zC 10 (zf aX) [8,9],zm 5 10]
def LE:C:=zR [0,1,5,12] [zm 11 5,zB 12 .neq 11 (zi 0)]
def MT:C:=zR [4] [zm 13 5,zm 4 13]
def R7:C:=zR [0,1,16] [zm 14 0,zm 15 1,zC 16 (zf aZ) [14,15]]
def Pa:C:=zD [0,1] [zm 17 0,zN 18 17,zF 19 31 1 1 18,zL 20 1 19,zm 21 0,zm 22 1,zN 23 21,zF 24 31 2 48 23,zq 25 (.iad 48 49 42 24 22),zF 26 42 2 10 25,zL 27 10 26,zC 28 (zf bd) [20,27]]
def OI:C:=zR [0,1,6] [zm 30 0,zm 31 1,zN 32 30,zF 33 31 2 48 32,zq 34 (.iad 48 49 42 33 31),zL 35 42 34,zC 36 (zf fT) [35],zm 29 36,zE 37 29 0,zE 38 29 1,zq 6 (.alloc false (.agg 42 [(.int .i64 0),(.int .i64 0),(.int .i64 0)])),zS 42 6 37,zm 7 38]
def Px:C:=zD [] [zm 39 0,zm 40 1,zL 41 42 6,zN 42 39,zF 43 31 2 48 42,zq 44 (.iad 48 49 42 43 40),zS 42 44 41]
def Ku:C:=zR [4] [zm 4 (zi 0)]
@[go_sem] def fA:Fc:=⟨2,.seq Io (.seq NX (.seq (.seq LE (.cond (.t 12) (.seq MT (.ret)) (.skip))) (.seq (.seq R7 (.cond (.t 16) Pa (.skip))) (.seq OI (.seq Px (.seq Ku (.ret))))))),[.t 4]⟩
def Qx:C:=zR [0] [zm 2 (zi 0)]
def MG:C:=zR [0,6] [zm 3 0,zN 4 3,zF 5 31 6 0 4,zL 6 0 5]
def Hs:C:=zR [2] [zm 2 (zi 3)]
def Ld:C:=zR [0] [zm 7 0,zm 8 0,zN 9 8,zF 10 31 2 48 9,zL 11 48 10,zN 12 7,zF 13 31 5 48 12,zS 48 13 11]
def Iw:C:=zR [] [zm 14 0,zN 15 14,zF 16 31 6 0 15,zS 0 16 (.k (.bool true))]
def Ls:C:=zR [2] [zm 2 (zi 0)]
@[go_sem] def eT:Fc:=⟨1,.seq Qx (.seq (.seq MG (.cond (.t 6) (.seq Hs (.ret)) (.skip))) (.seq Ld (.seq Iw (.seq Ls (.ret))))),[.t 2]⟩
def Ng:C:=zR [0,3] [zq 3 (.box false 1),zm 4 (zi 0)]
def Py:C:=zR [0,3,9] [zm 5 0,zN 6 5,zF 7 43 6 0 6,zL 8 0 7,zq 9 (.un .not 8)]
def Mf:C:=zR [4] [zm 4 (zi 3)]
def JQ:C:=zD [0] [zm 10 0,zm 11 0,zm 12 0,zN 13 12,zF 14 43 5 48 13,zL 15 48 14,zL 16 50 3,zN 17 10,zF 18 43 3 48 17,zw (.sta 48 18 15 [3]),zN 19 11,zF 20 43 4 50 19,zS 50 20 16]
def Rg:C:=zR [] [zm 21 0,zC 22 (zf cv) [21]]
def NG:C:=zR [4] [zm 4 (zi 0)]
@[go_sem] def gF:Fc:=⟨2,.seq Ng (.seq (.seq Py (.cond (.t 9) (.seq Mf (.ret)) (.skip))) (.seq JQ (.seq Rg (.seq NG (.ret))))),[.t 4]⟩
def Pw:C:=zR [0,3] [zq 3 (.box false 1),zm 4 (zi 0)]
def HK:C:=zR [0,3,9] [zm 5 0,zN 6 5,zF 7 31 6 0 6,zL 8 0 7,zq 9 (.un .not 8)]
def ME:C:=zR [4] [zm 4 (zi 3)]
def Jj:C:=zR [0,3] [zm 10 0,zm 11 0,zN 12 11,zF 13 31 5 48 12,zL 14 48 13,zN 15 10,zF 16 31 3 48 15,zS 48 16 14]
def JH:C:=zR [0] [zm 17 0,zL 18 50 3,zN 19 17,zF 20 31 4 50 19,zS 50 20 18]
def Li:C:=zR [0] [zm 21 0,zN 22 21,zF 23 31 6 0 22,zS 0 23 (.k (.bool false))]
def Jl:C:=zR [] [zm 24 0,zC 25 (zf bC) [24]]
def Kx:C:=zR [4] [zm 4 (zi 0)]
@[go_sem] def dZ:Fc:=⟨2,.seq Pw (.seq (.seq HK (.cond (.t 9) (.seq ME (.ret)) (.skip))) (.seq Jj (.seq JH (.seq Li (.seq Jl (.seq Kx (.ret))))))),[.t 4]⟩
def OL:C:=zR [0] [zm 2 (zi 0)]
def PS:C:=zR [0,7] [zm 3 0,zN 4 3,zF 5 43 6 0 4,zL 6 0 5,zq 7 (.un .not 6)]
def PC:C:=zR [2] [zm 2 (zi 3)]
def Qs:C:=zR [] [zm 8 0,zC 9 (zf cv) [8]]
def IZ:C:=zR [2] [zm 2 (zi 0)]
@[go_sem] def io:Fc:=⟨1,.seq OL (.seq (.seq PS (.cond (.t 7) (.seq PC (.ret)) (.skip))) (.seq Qs (.seq IZ (.ret)))),[.t 2]⟩
def O6:C:=zR [0] [zm 2 (zi 0)]
def PH:C:=zR [0,7] [zm 3 0,zN 4 3,zF 5 31 6 0 4,zL 6 0 5,zq 7 (.un .not 6)]
def JI:C:=zR [2] [zm 2 (zi 3)]
def KR:C:=zR [0] [zm 8 0,zN 9 8,zF 10 31 6 0 9,zS 0 10 (.k (.bool false))]
def OW:C:=zR [] [zm 11 0,zC 12 (zf bC) [11]]
def Mh:C:=zR [2] [zm 2 (zi 0)]
@[go_sem] def eG:Fc:=⟨1,.seq O6 (.seq (.seq PH (.cond (.t 7) (.seq JI (.ret)) (.skip))) (.seq KR (.seq OW (.seq Mh (.ret))))),[.t 2]⟩
def MQ:C:=zR [0,1,2] [zm 6 (.k (.bool false))]
def KK:C:=zR [0,1,2,7] [zq 7 (.alloc false (.agg 32 (List.replicate 49 (.bool false))))]
def QE:C:=zR [0,1,2,7,8] [zm 11 0,zN 12 11,zF 13 43 1 1 12,zL 14 1 13,zC 15 (zf bp) [14],zm 8 15]
def HA:C:=zR [0,2,7,8,16,17,18] [zm 16 1,zq 17 (.len false 16),zm 18 (zi 0)]
def PV:C:=zR [0,2,7,8,16,17,18,19] [zB 19 .lss 18 17]
def Pp:C:=zR [0,2,7,8,10,16,17,18] [zq 20 (.sad 10 16 18),zL 21 10 20,zm 10 21]
def IC:C:=zR [0,2,7,8,10,16,17,18,37] [zm 22 0,zm 23 10,zC 24 (zf bf) [22,23],zB 25 .eql 24 (zi 0),zm 26 25,zg 27 26 true (.mv 0),zg 28 26 true (.mv 10),zg 29 26 true (.call (zf bw) [27,28]),zg 30 26 true (.un .not 29),zP 31 26 30 (.k (.bool false)),zm 32 31,zg 33 32 true (.mv 10),zg 34 32 true (.iad 32 49 0 7 33),zg 35 32 true (.ld 0 34),zg 36 32 true (.un .not 35),zP 37 32 36 (.k (.bool false))]
def Iz:C:=zR [0,2,7,8,16,17,18] [zm 38 10,zq 39 (.iad 32 49 0 7 38),zS 0 39 (.k (.bool true))]
def Ma:C:=zR [0,2,7,8,16,17,18] [zm 40 8,zB 41 .sub 40 (zi 1),zm 8 41]
def MX:C:=zR [0,2,7,8,16,17,18] [zB 42 .add 18 (zi 1),zm 18 42]
def Cz:C:=zR [6] [zm 43 2,zB 44 .geq 43 (zi 0),zm 45 44,zg 46 45 true (.mv 8),zg 47 45 true (.mv 2),zg 48 45 true (.bin .geq 46 47),zP 49 45 48 (.k (.bool false)),zm 6 49]
def bR:C:=.seq PV (.seq (.cond (.t 19) (.skip) (.exit 0)) (.seq (.block 1 (.seq Pp (.seq IC (.cond (.t 37) (.seq Iz Ma) (.skip))))) MX))
@[go_sem] def iJ:Fc:=⟨3,.seq MQ (.seq KK (.seq QE (.seq (.seq HA (.block 0 (.loop [0,2,7,8,16,17,18] bR))) (.seq Cz (.ret))))),[.t 6]⟩
def R6:C:=zR [0,1,2] [zm 6 (.k (.bool false))]
def IQ:C:=zR [0,1,2,7] [zm 7 (zi 0)]
def Jd:C:=zR [0,1,2,7,8] [zm 8 (zi 0)]
def Jy:C:=zR [0,1,2,7,8,12] [zm 9 8,zm 10 1,zq 11 (.len false 10),zB 12 .lss 9 11]
def NK:C:=zD [0,1,2,7,8,41] [zm 15 0,zm 16 1,zm 17 8,zq 18 (.sad 10 16 17),zL 19 10 18,zq 20 (.pcall (zf aX) [15,19]),zB 21 .eql 20 (zi 0),zm 22 21,zg 23 22 true (.mv 0),zg 24 22 true (.mv 1),zg 25 22 true (.mv 8),zg 26 22 true (.sad 10 24 25),zg 27 22 true (.ld 10 26),zg 28 22 true (.call (zf aZ) [23,27]),zg 29 22 true (.un .not 28),zP 30 22 29 (.k (.bool false)),zm 31 30,zg 32 31 true (.mv 1),zg 33 31 true (.mv 8),zg 34 31 true (.slc 10 32 none (some 33) none),zg 35 31 true (.mv 1),zg 36 31 true (.mv 8),zg 37 31 true (.sad 10 35 36),zg 38 31 true (.ld 10 37),zg 39 31 true (.pcall (zf bb) [34,38]),zg 40 31 true (.un .not 39),zP 41 31 40 (.k (.bool false))]
def Hv:C:=zR [0,1,2,7,8] [zm 42 7,zB 43 .add 42 (zi 1),zm 7 43]
def Pd:C:=zR [0,1,2,7,8] [zm 13 8,zB 14 .add 13 (zi 1),zm 8 14]
def RB:C:=zR [6] [zm 44 2,zB 45 .geq 44 (zi 0),zm 46 45,zg 47 46 true (.mv 0),zg 48 46 true (.nilc 47),zg 49 46 true (.fad 31 1 1 48),zg 50 46 true (.ld 1 49),zg 51 46 true (.call (zf aI) [50]),zg 52 46 true (.mv 7),zg 53 46 true (.bin .sub 51 52),zg 54 46 true (.mv 2),zg 55 46 true (.bin .geq 53 54),zP 56 46 55 (.k (.bool false)),zm 6 56]
def a7:C:=.seq (.seq Jy (.cond (.t 12) (.skip) (.exit 0))) (.seq (.block 1 (.seq NK (.cond (.t 41) Hv (.skip)))) Pd)
@[go_sem] def eP:Fc:=⟨3,.seq R6 (.seq IQ (.seq (.seq Jd (.block 0 (.loop [0,1,2,7,8] a7))) (.seq RB (.ret)))),[.t 6]⟩
def JR:C:=zR [0,1] [zm 4 (zi 0)]
def N8:C:=zR [0,1,10] [zm 5 1,zB 6 .lss 5 (zi 0),zm 7 6,zg 8 7 false (.mv 1),zg 9 7 false (.bin .geq 8 (zi 49)),zP 10 7 (.k (.bool true)) 9]
def MM:C:=zR [4] [zm 4 (zi 1)]
def Md:C:=zR [18] [zm 11 0,zm 12 1,zN 13 11,zF 14 31 2 48 13,zq 15 (.iad 48 49 42 14 12),zF 16 42 0 10 15,zL 17 10 16,zB 18 .eql 17 (zi 0)]
def NP:C:=zR [4] [zm 4 (zi 30)]
def IP:C:=zR [4] [zm 4 (zi 0)]
@[go_sem] def fP:Fc:=⟨2,.seq JR (.seq (.seq N8 (.cond (.t 10) (.seq MM (.ret)) (.skip))) (.seq (.seq Md (.cond (.t 18) (.seq NP (.ret)) (.skip))) (.seq IP (.ret)))),[.t 4]⟩
def P8:C:=zR [0,2] [zq 2 (.alloc false (.agg 40 [(.int .i64 0),(.int .i64 0),(.int .i64 0),(.int .i64 0),(.int .i64 0)])),zm 3 (.k (.bool false))]
def KZ:C:=zR [2,4] [zm 5 0,zB 6 .and 5 (.k (.int .u64 15)),zq 7 (.conv .i64 6),zm 8 0,zB 9 .shr 8 (.k (.int .u64 4)),zB 10 .and 9 (.k (.int .u64 15)),zq 11 (.conv .i64 10),zm 12 0,zB 13 .shr 12 (.k (.int .u64 8)),zB 14 .and 13 (.k (.int .u64 65535)),zq 15 (.conv .i64 14),zm 16 0,zB 17 .shr 16 (.k (.int .u64 24)),zB 18 .and 17 (.k (.int .u64 16777215)),zq 19 (.conv .i64 18),zm 20 0,zB 21 .shr 20 (.k (.int .u64 48)),zq 22 (.conv .i64 21),zq 23 (.bld (.agg 40 [(.int .i64 0),(.int .i64 0),(.int .i64 0),(.int .i64 0),(.int .i64 0)]) [(0,7),(1,11),(2,15),(3,19),(4,22)]),zq 4 (.alloc false (.agg 40 [(.int .i64 0),(.int .i64 0),(.int .i64 0),(.int .i64 0),(.int .i64 0)])),zS 40 4 23]
def Q8:C:=zR [2,4,26] [zL 24 40 4,zC 25 (zf nk) [24],zq 26 (.un .not 25)]
def Rr:C:=zR [2,3] [zq 27 (.bld (.agg 40 [(.int .i64 0),(.int .i64 0),(.int .i64 0),(.int .i64 0),(.int .i64 0)]) []),zS 40 2 27,zm 3 (.k (.bool false))]
def Pj:C:=zR [2,3] [zL 28 40 4,zS 40 2 28,zm 3 (.k (.bool true))]
@[go_sem] def qf:Fc:=⟨1,.seq P8 (.seq KZ (.seq (.seq Q8 (.cond (.t 26) (.seq Rr (.ret)) (.skip))) (.seq Pj (.ret)))),[.cell 2 40,.t 3]⟩
def OZ:C:=zR [1,2,3] [zq 3 (.box false 0),zm 6 (zi 0)]
def R1:C:=zR [1,3,7,8] [zm 10 2,zC 11 (zf ky) [10],zm 9 11,zE 12 9 0,zE 13 9 1,zq 7 (.alloc false (.agg 40 [(.int .i64 0),(.int .i64 0),(.int .i64 0),(.int .i64 0),(.int .i64 0)])),zS 40 7 12,zm 8 13]
def Lr:C:=zR [1,3,7,14] [zm 15 8,zq 16 (.un .not 15),zm 14 16]
def M3:C:=zR [1,3,7,14] [zF 17 40 0 10 7,zL 18 10 17,zB 19 .gtr 18 (zi 4),zm 14 19]
def Ib:C:=zR [6] [zm 6 (zi 31)]
def Mq:C:=zR [3,7,20] [zF 21 40 2 10 7,zL 22 10 21,zm 23 1,zB 24 .neq 22 23,zm 20 24]
def Mv:C:=zR [6] [zm 6 (zi 30)]
def RZ:C:=zR [3,7,25] [zF 26 40 3 10 7,zL 27 10 26,zF 28 42 1 10 3,zL 29 10 28,zB 30 .neq 27 29,zm 25 30]
def Rq:C:=zR [6] [zm 6 (zi 33)]
def Lc:C:=zR [3,7,31] [zF 32 42 0 10 3,zL 33 10 32,zB 34 .eql 33 (zi 0),zm 31 34]
def CO:C:=zR [6] [zm 6 (zi 30)]
def Dd:C:=zR [35] [zF 36 40 0 10 7,zL 37 10 36,zF 38 42 0 10 3,zL 39 10 38,zB 40 .neq 37 39,zm 35 40]
def EW:C:=zR [6] [zm 6 (zi 31)]
def DE:C:=zR [6] [zm 6 (zi 0)]
@[go_sem] def lQ:Fc:=⟨3,.seq OZ (.seq R1 (.seq (.block 0 (.seq (.seq Lr (.cond (.t 14) (.skip) M3)) (.cond (.t 14) (.seq Ib (.ret)) (.seq Mq (.cond (.t 20) (.seq Mv (.ret)) (.seq RZ (.cond (.t 25) (.seq Rq (.ret)) (.seq Lc (.cond (.t 31) (.seq CO (.ret)) (.seq Dd (.cond (.t 35) (.seq EW (.ret)) (.skip)))))))))))) (.seq DE (.ret)))),[.t 6]⟩
def Lf:C:=zR [0,2] [zq 2 (.alloc false (.agg 40 [(.int .i64 0),(.int .i64 0),(.int .i64 0),(.int .i64 0),(.int .i64 0)])),zm 3 (.k (.bool false))]
def Ps:C:=zR [0,2,4] [zm 7 0,zC 8 (zf aK) [7,(zi 0),(zi 4)],zq 9 (.conv .i64 8),zm 10 0,zC 11 (zf aK) [10,(zi 4),(zi 4)],zq 12 (.conv .i64 11),zm 13 0,zC 14 (zf aK) [13,(zi 8),(zi 16)],zq 15 (.conv .i64 14),zm 16 0,zC 17 (zf aK) [16,(zi 24),(zi 24)],zq 18 (.conv .i64 17),zm 19 0,zC 20 (zf aK) [19,(zi 48),(zi 16)],zq 21 (.conv .i64 20),zq 22 (.bld (.agg 40 [(.int .i64 0),(.int .i64 0),(.int .i64 0),(.int .i64 0),(.int .i64 0)]) [(0,9),(1,12),(2,15),(3,18),(4,21)]),zq 4 (.alloc false (.agg 40 [(.int .i64 0),(.int .i64 0),(.int .i64 0),(.int .i64 0),(.int .i64 0)])),zS 40 4 22]
def N6:C:=zR [0,2,4,5,6] [zL 24 40 4,zC 25 (zf fK) [24],zm 23 25,zE 26 23 0,zE 27 23 1,zm 5 26,zm 6 27]
def Jk:C:=zR [2,4,34] [zm 28 6,zB 29 .neq 28 (zi 0),zm 30 29,zg 31 30 false (.mv 5),zg 32 30 false (.mv 0),zg 33 30 false (.bin .neq 31 32),zP 34 30 (.k (.bool true)) 33]
def HR:C:=zR [2,3] [zq 35 (.bld (.agg 40 [(.int .i64 0),(.int .i64 0),(.int .i64 0),(.int .i64 0),(.int .i64 0)]) []),zS 40 2 35,zm 3 (.k (.bool false))]
def Qv:C:=zR [2,3] [zL 36 40 4,zS 40 2 36,zm 3 (.k (.bool true))]
@[go_sem] def jn:Fc:=⟨1,.seq Lf (.seq Ps (.seq N6 (.seq (.seq Jk (.cond (.t 34) (.seq HR (.ret)) (.skip))) (.seq Qv (.ret))))),[.cell 2 40,.t 3]⟩
def KL:C:=zR [1,2,3] [zq 3 (.box false 0),zm 6 (zi 0)]
def K1:C:=zR [1,3,7,8] [zm 10 2,zC 11 (zf dA) [10],zm 9 11,zE 12 9 0,zE 13 9 1,zq 7 (.alloc false (.agg 40 [(.int .i64 0),(.int .i64 0),(.int .i64 0),(.int .i64 0),(.int .i64 0)])),zS 40 7 12,zm 8 13]
def LI:C:=zR [1,3,7,25] [zm 14 8,zq 15 (.un .not 14),zm 16 15,zg 17 16 false (.fad 40 0 10 7),zg 18 16 false (.ld 10 17),zg 19 16 false (.bin .eql 18 (zi 5)),zP 20 16 (.k (.bool true)) 19,zm 21 20,zg 22 21 false (.fad 40 0 10 7),zg 23 21 false (.ld 10 22),zg 24 21 false (.bin .eql 23 (zi 6)),zP 25 21 (.k (.bool true)) 24]
def Ol:C:=zR [6] [zm 6 (zi 31)]
def Q9:C:=zR [3,7,29] [zF 26 40 2 10 7,zL 27 10 26,zm 28 1,zB 29 .neq 27 28]
def Jg:C:=zR [6] [zm 6 (zi 30)]
def IH:C:=zR [3,7,34] [zF 30 40 3 10 7,zL 31 10 30,zF 32 42 1 10 3,zL 33 10 32,zB 34 .neq 31 33]
def Mg:C:=zR [6] [zm 6 (zi 33)]
def R4:C:=zR [3,7,37] [zF 35 42 0 10 3,zL 36 10 35,zB 37 .eql 36 (zi 0)]
def PO:C:=zR [6] [zm 6 (zi 30)]
def CB:C:=zR [42] [zF 38 40 0 10 7,zL 39 10 38,zF 40 42 0 10 3,zL 41 10 40,zB 42 .neq 39 41]
def Ee:C:=zR [6] [zm 6 (zi 31)]
def EK:C:=zR [6] [zm 6 (zi 0)]
@[go_sem] def gH:Fc:=⟨3,.seq KL (.seq K1 (.seq (.seq LI (.cond (.t 25) (.seq Ol (.ret)) (.skip))) (.seq (.seq Q9 (.cond (.t 29) (.seq Jg (.ret)) (.skip))) (.seq (.seq IH (.cond (.t 34) (.seq Mg (.ret)) (.skip))) (.seq (.seq R4 (.cond (.t 37) (.seq PO (.ret)) (.skip))) (.seq (.seq CB (.cond (.t 42) (.seq Ee (.ret)) (.skip))) (.seq EK (.ret)))))))),[.t 6]⟩
def KP:C:=zR [1] [zq 1 (.box false 0),zm 2 (.k (.bool false))]
def HX:C:=zR [2] [zF 3 42 0 10 1,zL 4 10 3,zB 5 .eql 4 (zi 0),zm 6 5,zg 7 6 true (.fad 42 1 10 1),zg 8 6 true (.ld 10 7),zg 9 6 true (.bin .lss 8 (zi 16777215)),zP 10 6 9 (.k (.bool false)),zm 2 10]
@[go_sem] def mV:Fc:=⟨1,.seq KP (.seq HX (.ret)),[.t 2]⟩
def QU:C:=zR [1] [zq 1 (.box false 0),zm 2 (.k (.bool false))]
def IW:C:=zR [2] [zF 3 42 0 10 1,zL 4 10 3,zB 5 .eql 4 (zi 0),zm 6 5,zg 7 6 true (.fad 42 1 10 1),zg 8 6 true (.ld 10 7),zg 9 6 true (.bin .lss 8 (zi 16777215)),zP 10 6 9 (.k (.bool false)),zm 2 10]
@[go_sem] def ik:Fc:=⟨1,.seq QU (.seq IW (.ret)),[.t 2]⟩
def QY:C:=zR [0,2,3] [zq 2 (.alloc false (.agg 48 (List.replicate 49 (.agg 42 [(.int .i64 0),(.int .i64 0),(.int .i64 0)])))),zq 3 (.alloc false (.agg 50 (List.replicate 8 (.int .i64 0))))]
def I1:C:=zD [2,3] [zm 4 0,zN 5 4,zF 6 43 3 48 5,zL 7 48 6,zm 8 0,zN 9 8,zF 10 43 4 50 9,zq 11 (.lda 50 10 0),zw (.sta 48 2 7 [0]),zS 50 3 11]
@[go_sem] def iG:Fc:=⟨1,.seq QY (.seq I1 (.ret)),[.cell 2 48,.cell 3 50]⟩
def Kj:C:=zR [0,2] [zq 2 (.alloc false (.agg 48 (List.replicate 49 (.agg 42 [(.int .i64 0),(.int .i64 0),(.int .i64 0)])))),zm 3 (.k (.bool false))]
def Ov:C:=zR [0,2,8] [zm 4 0,zN 5 4,zF 6 43 6 0 5,zL 7 0 6,zq 8 (.un .not 7)]
def Ij:C:=zR [2,3] [zL 9 48 2,zS 48 2 9,zm 3 (.k (.bool false))]
def OC:C:=zR [2,3] [zm 10 0,zN 11 10,zF 12 43 5 48 11,zL 13 48 12,zS 48 2 13,zm 3 (.k (.bool true))]
@[go_sem] def gC:Fc:=⟨1,.seq Kj (.seq (.seq Ov (.cond (.t 8) (.seq Ij (.ret)) (.skip))) (.seq OC (.ret))),[.cell 2 48,.t 3]⟩
def Ny:C:=zR [0] [zm 2 (zi 0)]
def Pk:C:=zR [2] [zm 3 0,zN 4 3,zF 5 43 1 1 4,zL 6 1 5,zC 7 (zf bp) [6],zm 2 7]
@[go_sem] def iV:Fc:=⟨1,.seq Ny (.seq Pk (.ret)),[.t 2]⟩
def PB:C:=zR [0] [zm 2 (zi 0)]
def LP:C:=zR [0,3] [zm 3 (zi 0)]
def LH:C:=zR [0,3,4] [zm 4 (zi 0)]
def Ow:C:=zR [0,3,4,11] [zm 5 4,zm 6 0,zN 7 6,zF 8 21 1 1 7,zL 9 1 8,zq 10 (.len false 9),zB 11 .lss 5 10]
def Pg:C:=zR [0,3,4,21] [zm 14 0,zN 15 14,zF 16 21 1 1 15,zL 17 1 16,zm 18 4,zq 19 (.sad 10 17 18),zL 20 10 19,zB 21 .eql 20 (zi 0)]
def I4:C:=zR [0,3,4] [zm 22 3,zB 23 .add 22 (zi 1),zm 3 23]
def OK:C:=zR [0,3,4] [zm 12 4,zB 13 .add 12 (zi 1),zm 4 13]
def Kt:C:=zR [2] [zm 24 3,zm 2 24]
def bM:C:=.seq (.seq Ow (.cond (.t 11) (.skip) (.exit 0))) (.seq (.block 1 (.seq Pg (.cond (.t 21) I4 (.skip)))) OK)
@[go_sem] def eI:Fc:=⟨1,.seq PB (.seq LP (.seq (.seq LH (.block 0 (.loop [0,3,4] bM))) (.seq Kt (.ret)))),[.t 2]⟩
def OY:C:=zR [0,1] [zm 4 (.k .nilp)]
def OJ:C:=zR [0,1,15] [zm 5 1,zB 6 .lss 5 (zi 0),zm 7 6,zg 8 7 false (.mv 1),zg 9 7 false (.mv 0),zg 10 7 false (.nilc 9),zg 11 7 false (.fad 59 0 1 10),zg 12 7 false (.ld 1 11),zg 13 7 false (.len false 12),zg 14 7 false (.bin .geq 8 13),zP 15 7 (.k (.bool true)) 14]
def II:C:=zR [4] [zm 4 (.k .nilp)]
def Kb:C:=zR [4] [zm 16 0,zN 17 16,zF 18 59 0 1 17,zL 19 1 18,zm 20 1,zq 21 (.sad 55 19 20),zm 4 21]
@[go_sem] def kq:Fc:=⟨2,.seq OY (.seq (.seq OJ (.cond (.t 15) (.seq II (.ret)) (.skip))) (.seq Kb (.ret))),[.t 4]⟩
def Qu:C:=zR [0,1] [zm 4 (.k (.bool false))]
def MY:C:=zR [4] [zm 5 1,zB 6 .geq 5 (zi 0),zm 7 6,zg 8 7 true (.mv 1),zg 9 7 true (.mv 0),zg 10 7 true (.nilc 9),zg 11 7 true (.fad 33 0 1 10),zg 12 7 true (.ld 1 11),zg 13 7 true (.len false 12),zg 14 7 true (.bin .lss 8 13),zP 15 7 14 (.k (.bool false)),zm 4 15]
@[go_sem] def fB:Fc:=⟨2,.seq Qu (.seq MY (.ret)),[.t 4]⟩
def O3:C:=zR [0,1,2,6] [zq 6 (.alloc false (.agg 24 (List.replicate 8 (.int .u64 0))))]
def Nz:C:=zR [0,1,2,6,7] [zm 9 0,zN 10 9,zF 11 33 0 1 10,zL 12 1 11,zm 13 1,zq 14 (.sad 24 12 13),zL 15 24 14,zq 7 (.alloc false (.agg 24 (List.replicate 8 (.int .u64 0)))),zS 24 7 15]
def Rh:C:=zR [0,1,2,6,7,8] [zm 8 (zi 0)]
def Hr:C:=zR [0,1,2,6,7,8,18] [zm 16 8,zm 17 2,zB 18 .lss 16 17]
def JX:C:=zD [0,1,2,6,7,8] [zm 21 0,zN 22 21,zF 23 33 1 1 22,zL 24 1 23,zm 25 1,zq 26 (.sad 1 24 25),zL 27 1 26,zm 28 8,zq 29 (.sad 90 27 28),zF 30 90 0 10 29,zL 31 10 30,zm 32 0,zN 33 32,zF 34 33 1 1 33,zL 35 1 34,zm 36 1,zq 37 (.sad 1 35 36),zL 38 1 37,zm 39 8,zq 40 (.sad 90 38 39),zF 41 90 1 18 40,zL 42 18 41,zq 43 (.iad 24 8 18 7 31),zS 18 43 42]
def Nc:C:=zR [0,1,2,6,7,8] [zm 19 8,zB 20 .add 19 (zi 1),zm 8 20]
def RY:C:=zR [6] [zL 44 24 7,zS 24 6 44]
def cK:C:=.seq (.seq Hr (.cond (.t 18) (.skip) (.exit 0))) (.seq (.block 1 JX) Nc)
@[go_sem] def eV:Fc:=⟨3,.seq O3 (.seq Nz (.seq (.seq Rh (.block 0 (.loop [0,1,2,6,7,8] cK))) (.seq RY (.ret)))),[.cell 6 24]⟩
def OD:C:=zD [] [zm 4 0,zm 5 1,zB 6 .quo 5 (zi 64),zN 7 4,zq 8 (.iad 78 16 18 7 6),zL 9 18 8,zm 10 1,zB 11 .rem 10 (zi 64),zB 12 .shl (.k (.int .u64 1)) 11,zB 13 .xor 9 12,zN 14 4,zq 15 (.iad 78 16 18 14 6),zS 18 15 13]
@[go_sem] def jP:Fc:=⟨2,OD,[]⟩
def JU:C:=zR [0,1,2] [zm 6 (zi 0)]
def RT:C:=zR [2,9] [zm 7 0,zm 8 1,zC 9 (zf bX) [7,8]]
def HF:C:=zR [2,9,10] [zB 11 .eql 9 (zi (-1)),zm 10 11]
def Ja:C:=zR [6] [zm 6 (zi 1)]
def La:C:=zR [12] [zm 13 2,zB 14 .eql 9 13,zm 12 14]
def R2:C:=zR [6] [zm 6 (zi 0)]
def MA:C:=zR [6] [zm 6 (zi 3)]
@[go_sem] def jz:Fc:=⟨3,.seq JU (.seq (.seq RT (.block 0 (.seq HF (.cond (.t 10) (.seq Ja (.ret)) (.seq La (.cond (.t 12) (.seq R2 (.ret)) (.skip))))))) (.seq MA (.ret))),[.t 6]⟩
def Js:C:=zR [0,3] [zq 3 (.box false 1)]
def Qt:C:=zR [0,6,7] [zL 6 48 3,zm 7 (zi 0)]
def NT:C:=zR [0,6,7,8] [zB 8 .lss 7 (zi 49)]
def QG:C:=zR [0,5,6,7] [zq 9 (.idx 48 49 6 7),zq 5 (.alloc false (.agg 42 [(.int .i64 0),(.int .i64 0),(.int .i64 0)])),zS 42 5 9]
def Lm:C:=zR [0,5,6,7,12] [zF 10 42 0 10 5,zL 11 10 10,zB 12 .neq 11 (zi 0)]
def OE:C:=zD [0,6,7] [zm 13 0,zF 14 42 2 10 5,zL 15 10 14,zN 16 13,zq 17 (.iad 82 1024 0 16 15),zS 0 17 (.k (.bool true))]
def Ni:C:=zR [0,6,7] [zB 18 .add 7 (zi 1),zm 7 18]
def bh:C:=.seq NT (.seq (.cond (.t 8) (.skip) (.exit 0)) (.seq (.block 1 (.seq QG (.seq Lm (.cond (.t 12) OE (.skip))))) Ni))
@[go_sem] def jc:Fc:=⟨2,.seq Js (.seq Qt (.block 0 (.loop [0,6,7] bh))),[]⟩
def QT:C:=zR [0,1,2,3] [zm 8 (zi 0)]
def QK:C:=zR [0,1,2,3,9] [zm 10 0,zm 11 1,zC 12 (zf cO) [10,11],zm 9 12]
def Rl:C:=zR [0,1,2,3,9,14] [zm 13 9,zB 14 .lss 13 (zi 0)]
def QD:C:=zR [8] [zm 8 (zi 1)]
def Qp:C:=zR [0,1,3,17] [zm 15 9,zm 16 2,zB 17 .neq 15 16]
def Ie:C:=zR [8] [zm 8 (zi 3)]
def IJ:C:=zD [] [zm 18 0,zN 19 18,zF 20 21 1 1 19,zL 21 1 20,zm 22 1,zm 23 0,zN 24 23,zF 25 21 0 10 24,zL 26 10 25,zB 27 .sub 22 26,zm 28 3,zq 29 (.sad 10 21 27),zS 10 29 28]
def Mo:C:=zR [8] [zm 8 (zi 0)]
@[go_sem] def ew:Fc:=⟨4,.seq QT (.seq QK (.seq (.seq Rl (.cond (.t 14) (.seq QD (.ret)) (.skip))) (.seq (.seq Qp (.cond (.t 17) (.seq Ie (.ret)) (.skip))) (.seq IJ (.seq Mo (.ret)))))),[.t 8]⟩
def KW:C:=zR [0] [zm 2 (zi 0)]
def M7:C:=zR [0,4] [zm 3 0,zB 4 .eql 3 (.k (.int .u64 0))]
def NB:C:=zR [2] [zm 2 (zi 64)]
def If:C:=zR [2] [zm 5 0,zm 6 0,zq 7 (.un .neg 6),zB 8 .and 5 7,zB 9 .mul 8 (.k (.int .u64 285870213051353865)),zB 10 .shr 9 (.k (.int .u64 58)),zq 11 (.iad 108 64 12 (.k yg) 10),zL 12 12 11,zq 13 (.conv .i64 12),zm 2 13]
@[go_sem] def eQ:Fc:=⟨1,.seq KW (.seq (.seq M7 (.cond (.t 4) (.seq NB (.ret)) (.skip))) (.seq If (.ret))),[.t 2]⟩
def Mu:C:=zR [0] [zm 2 (zi 0)]
def Il:C:=zR [0,13] [zm 3 0,zN 4 3,zF 5 59 2 0 4,zL 6 0 5,zm 7 6,zg 8 7 true (.mv 0),zg 9 7 true (.nilc 8),zg 10 7 true (.fad 59 3 10 9),zg 11 7 true (.ld 10 10),zg 12 7 true (.bin .eql 11 (zi 0)),zP 13 7 12 (.k (.bool false))]
def Pi:C:=zR [0] [zm 14 0,zN 15 14,zF 16 59 1 0 15,zS 0 16 (.k (.bool true))]
def Mm:C:=zR [0,20] [zm 17 0,zN 18 17,zF 19 59 1 0 18,zL 20 0 19]
def RF:C:=zR [2] [zm 2 (zi 4)]
def RG:C:=zR [0,24] [zm 21 0,zN 22 21,zF 23 59 2 0 22,zL 24 0 23]
def NL:C:=zR [0] [zm 25 0,zN 26 25,zF 27 59 3 10 26,zL 28 10 27,zB 29 .sub 28 (zi 1),zN 30 25,zF 31 59 3 10 30,zS 10 31 29]
def Kp:C:=zR [] [zm 32 0,zN 33 32,zF 34 59 4 10 33,zL 35 10 34,zB 36 .add 35 (zi 1),zN 37 32,zF 38 59 4 10 37,zS 10 38 36]
def JN:C:=zR [2] [zm 2 (zi 0)]
@[go_sem] def jM:Fc:=⟨1,.seq Mu (.seq (.seq Il (.cond (.t 13) Pi (.skip))) (.seq (.seq Mm (.cond (.t 20) (.seq RF (.ret)) (.skip))) (.seq (.seq RG (.cond (.t 24) NL (.skip))) (.seq Kp (.seq JN (.ret)))))),[.t 2]⟩
def QI:C:=zR [0] [zm 2 (zi 0)]
def QP:C:=zR [0] [zm 3 0,zB 4 .shr 3 (.k (.int .u64 1)),zB 5 .and 4 (.k (.int .u64 6148914691236517205)),zm 6 0,zB 7 .and 6 (.k (.int .u64 6148914691236517205)),zB 8 .add 5 7,zm 0 8]
def NO:C:=zR [0] [zm 9 0,zB 10 .shr 9 (.k (.int .u64 2)),zB 11 .and 10 (.k (.int .u64 3689348814741910323)),zm 12 0,zB 13 .and 12 (.k (.int .u64 3689348814741910323)),zB 14 .add 11 13,zm 0 14]
def LY:C:=zR [0] [zm 15 0,zB 16 .shr 15 (.k (.int .u64 4)),zm 17 0,zB 18 .add 16 17,zB 19 .and 18 (.k (.int .u64 1085102592571150095)),zm 0 19]
def QA:C:=zR [0] [zm 20 0,zm 21 0,zB 22 .shr 21 (.k (.int .u64 8)),zB 23 .add 20 22,zm 0 23]
def LC:C:=zR [0] [zm 24 0,zm 25 0,zB 26 .shr 25 (.k (.int .u64 16)),zB 27 .add 24 26,zm 0 27]
def Ko:C:=zR [0] [zm 28 0,zm 29 0,zB 30 .shr 29 (.k (.int .u64 32)),zB 31 .add 28 30,zm 0 31]
def Qe:C:=zR [2] [zm 32 0,zq 33 (.conv .i64 32),zB 34 .and 33 (zi 127),zm 2 34]
@[go_sem] def gi:Fc:=⟨1,.seq QI (.seq QP (.seq NO (.seq LY (.seq QA (.seq LC (.seq Ko (.seq Qe (.ret)))))))),[.t 2]⟩
def Km:C:=zR [0,1] [zm 4 (.k (.bool false))]
def Ph:C:=zR [0,5] [zm 6 0,zm 7 1,zN 8 6,zF 9 31 2 48 8,zq 10 (.iad 48 49 42 9 7),zF 11 42 2 10 10,zL 12 10 11,zm 5 12]
def RX:C:=zR [4] [zm 13 0,zN 14 13,zF 15 31 3 48 14,zL 16 48 15,zC 17 (zf aL) [16],zm 18 5,zC 19 (zf bb) [17,18],zq 20 (.un .not 19),zm 21 20,zg 22 21 true (.mv 0),zg 23 21 true (.nilc 22),zg 24 21 true (.fad 31 6 0 23),zg 25 21 true (.ld 0 24),zg 26 21 true (.mv 25),zg 27 26 true (.mv 0),zg 28 26 true (.nilc 27),zg 29 26 true (.fad 31 5 48 28),zg 30 26 true (.ld 48 29),zg 31 26 true (.call (zf aL) [30]),zg 32 26 true (.mv 5),zg 33 26 true (.call (zf bb) [31,32]),zg 34 21 true (.pick 26 33 (.k (.bool false))),zg 35 21 true (.un .not 34),zP 36 21 35 (.k (.bool false)),zm 4 36]
@[go_sem] def fj:Fc:=⟨2,.seq Km (.seq Ph (.seq RX (.ret))),[.t 4]⟩
def RP:C:=zR [0,1,2,3] [zm 8 (zi 0)]
def RW:C:=zR [0,1,2,3,21] [zm 10 0,zm 11 1,zC 12 (zf bH) [10,11],zq 13 (.un .not 12),zm 14 13,zg 15 14 false (.mv 2),zg 16 14 false (.bin .lss 15 (zi 0)),zP 17 14 (.k (.bool true)) 16,zm 18 17,zg 19 18 false (.mv 2),zg 20 18 false (.bin .gtr 19 (zi 7)),zP 21 18 (.k (.bool true)) 20]
def LR:C:=zR [8] [zm 8 (zi 1)]
def OS:C:=zR [0,1,2,3,9] [zm 22 0,zC 23 (zf cU) [22],zm 9 23]
def Sd:C:=zR [0,1,2,3,9,25] [zm 24 9,zB 25 .eql 24 (zi 0)]
def HU:C:=zD [9] [zm 26 0,zN 27 26,zF 28 33 1 1 27,zq 29 (.lda 1 28 0),zm 30 1,zq 31 (.bsl true 92 90 (.agg 90 [(.int .i64 0),(.int .u64 0),(.agg 88 (List.replicate 8 (.bool false)))]) 0 []),zm 32 0,zN 33 32,zF 34 33 1 1 33,zL 35 1 34,zm 36 1,zq 37 (.sad 1 35 36),zL 38 1 37,zq 39 (.appa true 92 90 31 38 [0]),zm 40 2,zm 41 3,zq 42 (.bld (.agg 90 [(.int .i64 0),(.int .u64 0),(.agg 88 (List.replicate 8 (.bool false)))]) [(0,40),(1,41)]),zq 43 (.bsl false 92 90 (.agg 90 [(.int .i64 0),(.int .u64 0),(.agg 88 (List.replicate 8 (.bool false)))]) 1 [(0,42)]),zq 44 (.appa true 92 90 39 43 [0]),zq 45 (.sad 1 29 30),zS 1 45 44]
def MW:C:=zR [8] [zm 46 9,zm 8 46]
@[go_sem] def em:Fc:=⟨4,.seq RP (.seq (.seq RW (.cond (.t 21) (.seq LR (.ret)) (.skip))) (.seq OS (.seq (.seq Sd (.cond (.t 25) HU (.skip))) (.seq MW (.ret))))),[.t 8]⟩
def Qb:C:=zR [0,3] [zq 3 (.box false 1),zm 4 (zi 0),zm 5 (zi 0)]
def NA:C:=zR [0,3,6,7] [zm 10 0,zN 11 10,zF 12 31 1 1 11,zL 13 1 12,zC 14 (zf aU) [13],zm 9 14,zE 15 9 0,zE 16 9 1,zm 6 15,zm 7 16]
def HG:C:=zR [0,3,6,7,18] [zm 17 7,zB 18 .neq 17 (zi 0)]
def J8:C:=zR [4,5] [zm 19 7,zm 4 (zi 0),zm 5 19]
def MH:C:=zR [0,3,6,8] [zm 8 (zi 0)]
def LV:C:=zR [0,3,6,8,21] [zm 20 8,zB 21 .lss 20 (zi 8)]
def OV:C:=zD [0,3,6,7,8] [zm 24 0,zN 25 24,zF 26 31 0 1 25,zL 27 1 26,zm 28 6,zm 29 8,zm 30 8,zq 31 (.iad 24 8 18 3 30),zL 32 18 31,zC 33 (zf bn) [27,28,29,32],zm 7 33]
def IN:C:=zR [0,3,6,7,8,35] [zm 34 7,zB 35 .neq 34 (zi 0)]
def JG:C:=zR [4,5] [zm 36 7,zm 4 (zi 0),zm 5 36]
def Qq:C:=zR [0,3,6,8] [zm 22 8,zB 23 .add 22 (zi 1),zm 8 23]
def DM:C:=zR [4,5] [zm 37 6,zm 4 37,zm 5 (zi 0)]
def bZ:C:=.seq (.seq LV (.cond (.t 21) (.skip) (.exit 0))) (.seq (.block 1 (.seq OV (.seq IN (.cond (.t 35) (.seq JG (.ret)) (.skip))))) Qq)
@[go_sem] def ff:Fc:=⟨2,.seq Qb (.seq NA (.seq (.seq HG (.cond (.t 18) (.seq J8 (.ret)) (.skip))) (.seq (.seq MH (.block 0 (.loop [0,3,6,8] bZ))) (.seq DM (.ret))))),[.t 4,.t 5]⟩
def MS:C:=zR [0,1] [zm 4 (zi 0)]
def MP:C:=zR [0,1,5] [zm 6 0,zm 7 1,zC 8 (zf cg) [6,7,(zi 1)],zm 5 8]
def Sa:C:=zR [0,1,5,10] [zm 9 5,zB 10 .eql 9 (zi 0)]
def Nx:C:=zR [5] [zm 11 0,zN 12 11,zF 13 80 2 78 12,zm 14 1,zC 15 (zf aY) [13,14]]
def OO:C:=zR [4] [zm 16 5,zm 4 16]
@[go_sem] def iK:Fc:=⟨2,.seq MS (.seq MP (.seq (.seq Sa (.cond (.t 10) Nx (.skip))) (.seq OO (.ret)))),[.t 4]⟩
def Nd:C:=zR [1,2] [zq 1 (.box false 0),zq 2 (.alloc false (.agg 42 [(.int .i64 0),(.int .i64 0),(.int .i64 0)])),zm 3 (zi 0)]
def JL:C:=zR [1,2,6] [zF 4 42 0 10 1,zL 5 10 4,zB 6 .eql 5 (zi 0)]
def Sc:C:=zR [2,3] [zq 7 (.bld (.agg 42 [(.int .i64 0),(.int .i64 0),(.int .i64 0)]) []),zS 42 2 7,zm 3 (zi 30)]
def Oj:C:=zR [2,3] [zF 8 42 1 10 1,zL 9 10 8,zF 10 42 1 10 1,zL 11 10 10,zB 12 .sub (zi 16777215) 11,zq 13 (.mnx false (zi 1) 12),zB 14 .add 9 13,zq 15 (.bld (.agg 42 [(.int .i64 0),(.int .i64 0),(.int .i64 0)]) [(1,14)]),zS 42 2 15,zm 3 (zi 0)]
@[go_sem] def nB:Fc:=⟨1,.seq Nd (.seq (.seq JL (.cond (.t 6) (.seq Sc (.ret)) (.skip))) (.seq Oj (.ret))),[.cell 2 42,.t 3]⟩
def Ke:C:=zR [0,1] [zm 4 (zi 0)]
def JB:C:=zR [4] [zm 5 0,zm 6 1,zC 7 (zf aO) [5,6,(zi 1),(zi 0)],zm 4 7]
@[go_sem] def eD:Fc:=⟨2,.seq Ke (.seq JB (.ret)),[.t 4]⟩
def NN:C:=zR [1,2] [zq 1 (.box false 0),zq 2 (.alloc false (.agg 42 [(.int .i64 0),(.int .i64 0),(.int .i64 0)])),zm 3 (zi 0)]
def Rd:C:=zR [1,2,7] [zF 5 42 0 10 1,zL 6 10 5,zB 7 .eql 6 (zi 0)]
def O0:C:=zR [2,3] [zq 8 (.bld (.agg 42 [(.int .i64 0),(.int .i64 0),(.int .i64 0)]) []),zS 42 2 8,zm 3 (zi 30)]
def LJ:C:=zR [2,4] [zF 9 42 1 10 1,zL 10 10 9,zm 4 10]
def KG:C:=zR [2,4,12] [zm 11 4,zB 12 .neq 11 (zi 16777215)]
def PT:C:=zR [2,4] [zm 13 4,zB 14 .add 13 (zi 1),zm 4 14]
def N9:C:=zR [2,3] [zm 15 4,zq 16 (.bld (.agg 42 [(.int .i64 0),(.int .i64 0),(.int .i64 0)]) [(1,15)]),zS 42 2 16,zm 3 (zi 0)]
@[go_sem] def iy:Fc:=⟨1,.seq NN (.seq (.seq Rd (.cond (.t 7) (.seq O0 (.ret)) (.skip))) (.seq LJ (.seq (.seq KG (.cond (.t 12) PT (.skip))) (.seq N9 (.ret))))),[.cell 2 42,.t 3]⟩
def RJ:C:=zR [0] [zm 6 0,zN 7 6,zF 8 43 6 0 7,zS 0 8 (.k (.bool false))]
def MK:C:=zR [0] [zm 9 0,zC 10 (zf bD) [9]]
def I7:C:=zR [0,2] [zm 11 0,zN 12 11,zF 13 43 7 82 12,zL 14 82 13,zq 2 (.alloc false (.agg 82 (List.replicate 1024 (.bool false)))),zS 82 2 14]
def KM:C:=zR [0,2] [zm 15 0,zN 16 15,zF 17 43 2 48 16,zL 18 48 17,zC 19 (zf bx) [2,18]]
def Og:C:=zR [0,2,23,24] [zm 20 0,zN 21 20,zF 22 43 4 50 21,zL 23 50 22,zm 24 (zi 0)]
def JT:C:=zR [0,2,23,24,25] [zB 25 .lss 24 (zi 8)]
def Ii:C:=zR [0,2,4,23,24] [zq 26 (.idx 50 8 23 24),zm 4 26]
def Kv:C:=zR [0,2,4,23,24,32] [zm 27 4,zB 28 .geq 27 (zi 0),zm 29 28,zg 30 29 true (.mv 4),zg 31 29 true (.bin .lss 30 (zi 1024)),zP 32 29 31 (.k (.bool false))]
def MO:C:=zR [0,2,23,24] [zm 33 4,zq 34 (.iad 82 1024 0 2 33),zS 0 34 (.k (.bool true))]
def Nt:C:=zR [0,2,23,24] [zB 35 .add 24 (zi 1),zm 24 35]
def EF:C:=zR [0,2,40,41] [zm 36 0,zN 37 36,zF 38 43 0 1 37,zL 39 1 38,zC 40 (zf ch) [39],zm 41 (zi 0)]
def CX:C:=zR [0,2,40,41,42] [zB 42 .lss 41 40]
def Fd:C:=zR [0,2,5,40,41] [zm 43 41,zm 5 43]
def CL:C:=zR [0,2,5,40,41,56] [zm 44 5,zq 45 (.iad 82 1024 0 2 44),zL 46 0 45,zq 47 (.un .not 46),zm 48 47,zg 49 48 true (.mv 0),zg 50 48 true (.nilc 49),zg 51 48 true (.fad 43 1 1 50),zg 52 48 true (.ld 1 51),zg 53 48 true (.mv 5),zg 54 48 true (.call (zf bX) [52,53]),zg 55 48 true (.bin .eql 54 (zi 1)),zP 56 48 55 (.k (.bool false))]
def E5:C:=zR [0,2,40,41] [zm 57 0,zN 58 57,zF 59 43 1 1 58,zL 60 1 59,zm 61 5,zC 62 (zf cH) [60,61]]
def ES:C:=zR [0,2,40,41] [zB 63 .add 41 (zi 1),zm 41 63]
def Cm:C:=zR [] [zm 64 0,zN 65 64,zF 66 43 1 1 65,zL 67 1 66,zC 68 (zf dH) [67]]
def bY:C:=.seq JT (.seq (.cond (.t 25) (.skip) (.exit 0)) (.seq (.block 1 (.seq Ii (.seq Kv (.cond (.t 32) MO (.skip))))) Nt))
def bW:C:=.seq CX (.seq (.cond (.t 42) (.skip) (.exit 2)) (.seq (.block 3 (.seq Fd (.seq CL (.cond (.t 56) E5 (.skip))))) ES))
@[go_sem] def gG:Fc:=⟨1,.seq RJ (.seq MK (.seq I7 (.seq KM (.seq (.seq Og (.block 0 (.loop [0,2,23,24] bY))) (.seq (.seq EF (.block 2 (.loop [0,2,40,41] bW))) Cm))))),[]⟩
def HH:C:=zD [0,2] [zm 4 0,zN 5 4,zF 6 31 3 48 5,zL 7 48 6,zq 8 (.callk true (zf aL) [7]),zm 9 0,zN 10 9,zF 11 31 2 48 10,zL 12 48 11,zq 13 (.callk true (zf aL) [12]),zq 14 (.app false 38 10 8 13),zm 15 0,zN 16 15,zF 17 31 4 50 16,zq 18 (.slarr 50 8 10 17 none none none),zq 19 (.app false 38 10 14 18),zm 2 19]
def Ob:C:=zR [0,2,3] [zm 3 (zi 0)]
def Mi:C:=zR [0,2,3,29] [zm 20 3,zm 21 0,zN 22 21,zF 23 31 1 1 22,zL 24 1 23,zN 25 24,zF 26 21 1 1 25,zL 27 1 26,zq 28 (.len false 27),zB 29 .lss 20 28]
def Rm:C:=zR [0,2,3,43] [zm 32 2,zm 33 0,zN 34 33,zF 35 31 1 1 34,zL 36 1 35,zN 37 36,zF 38 21 0 10 37,zL 39 10 38,zm 40 3,zB 41 .add 39 40,zC 42 (zf bb) [32,41],zq 43 (.un .not 42)]
def LU:C:=zD [0,2,3] [zm 44 0,zN 45 44,zF 46 31 1 1 45,zL 47 1 46,zm 48 0,zN 49 48,zF 50 31 1 1 49,zL 51 1 50,zN 52 51,zF 53 21 0 10 52,zL 54 10 53,zm 55 3,zB 56 .add 54 55,zC 57 (zf bd) [47,56]]
def HB:C:=zR [0,2,3] [zm 30 3,zB 31 .add 30 (zi 1),zm 3 31]
def bT:C:=.seq (.seq Mi (.cond (.t 29) (.skip) (.exit 0))) (.seq (.block 1 (.seq Rm (.cond (.t 43) LU (.skip)))) HB)
@[go_sem] def eR:Fc:=⟨1,.seq HH (.seq Ob (.block 0 (.loop [0,2,3] bT))),[]⟩
def Kg:C:=zR [0,1] [zm 4 (.k (.bool false))]
def MI:C:=zR [0,1,5] [zm 5 (zi 0)]
def HP:C:=zR [0,1,5,9] [zm 6 5,zm 7 0,zq 8 (.len false 7),zB 9 .lss 6 8]
def JJ:C:=zR [0,1,5,17] [zm 12 0,zm 13 5,zq 14 (.sad 10 12 13),zL 15 10 14,zm 16 1,zB 17 .eql 15 16]
def Q6:C:=zR [4] [zm 4 (.k (.bool true))]
def Nj:C:=zR [0,1,5] [zm 10 5,zB 11 .add 10 (zi 1),zm 5 11]
def Nb:C:=zR [4] [zm 4 (.k (.bool false))]
def dW:C:=.seq (.seq HP (.cond (.t 9) (.skip) (.exit 0))) (.seq (.block 1 (.seq JJ (.cond (.t 17) (.seq Q6 (.ret)) (.skip)))) Nj)
@[go_sem] def i5:Fc:=⟨2,.seq Kg (.seq (.seq MI (.block 0 (.loop [0,1,5] dW))) (.seq Nb (.ret))),[.t 4]⟩
def Jm:C:=zR [1] [zq 1 (.box false 0),zm 2 (.k (.bool false))]
def Jq:C:=zR [1,3] [zF 4 40 0 10 1,zL 5 10 4,zB 6 .eql 5 (zi 5),zm 7 6,zg 8 7 false (.fad 40 0 10 1),zg 9 7 false (.ld 10 8),zg 10 7 false (.bin .eql 9 (zi 6)),zP 11 7 (.k (.bool true)) 10,zm 3 11]
def HZ:C:=zR [2] [zF 12 40 0 10 1,zL 13 10 12,zC 14 (zf bV) [13,(zi 1),(zi 6)],zm 15 14,zg 16 15 true (.fad 40 1 10 1),zg 17 15 true (.ld 10 16),zg 18 15 true (.call (zf bV) [17,(zi 0),(zi 15)]),zP 19 15 18 (.k (.bool false)),zm 20 19,zg 21 20 true (.fad 40 2 10 1),zg 22 20 true (.ld 10 21),zg 23 20 true (.call (zf bV) [22,(zi 0),(zi 48)]),zP 24 20 23 (.k (.bool false)),zm 25 24,zg 26 25 true (.fad 40 3 10 1),zg 27 25 true (.ld 10 26),zg 28 25 true (.call (zf bV) [27,(zi 0),(zi 16777215)]),zP 29 25 28 (.k (.bool false)),zm 30 29,zg 31 30 true (.fad 40 4 10 1),zg 32 30 true (.ld 10 31),zg 33 30 true (.call (zf bV) [32,(zi 0),(zi 65535)]),zP 34 30 33 (.k (.bool false)),zm 35 34,zg 36 35 true (.mv 3),zg 37 35 true (.un .not 36),zg 38 35 true (.mv 37),zg 39 38 false (.fad 40 2 10 1),zg 40 38 false (.ld 10 39),zg 41 38 false (.bin .eql 40 (zi 0)),zg 42 38 false (.mv 41),zg 43 42 true (.fad 40 3 10 1),zg 44 42 true (.ld 10 43),zg 45 42 true (.bin .eql 44 (zi 0)),zg 46 38 false (.pick 42 45 (.k (.bool false))),zg 47 35 true (.pick 38 (.k (.bool true)) 46),zP 48 35 47 (.k (.bool false)),zm 2 48]
@[go_sem] def oI:Fc:=⟨1,.seq Jm (.seq Jq (.seq HZ (.ret))),[.t 2]⟩
def K4:C:=zR [0,1,2] [zm 6 (.k (.int .u64 0))]
def NS:C:=zR [0,1,2,7] [zm 7 (.k (.int .u64 0))]
def IK:C:=zR [0,1,2,7,12] [zm 9 1,zm 10 2,zC 11 (zf dw) [9,10],zq 12 (.un .not 11)]
def I6:C:=zR [6] [zm 6 (.k (.int .u64 0))]
def LT:C:=zR [0,1,2,7,8] [zm 8 (zi 0)]
def Jp:C:=zR [0,1,2,7,8,15] [zm 13 8,zm 14 2,zB 15 .lss 13 14]
def JM:C:=zR [0,1,2,7,8] [zm 18 7,zm 19 0,zm 20 1,zm 21 8,zB 22 .add 20 21,zC 23 (zf be) [19,22],zm 24 8,zB 25 .shl 23 24,zB 26 .or 18 25,zm 7 26]
def MV:C:=zR [0,1,2,7,8] [zm 16 8,zB 17 .add 16 (zi 1),zm 8 17]
def Rb:C:=zR [6] [zm 27 7,zm 6 27]
def d8:C:=.seq (.seq Jp (.cond (.t 15) (.skip) (.exit 0))) (.seq (.block 1 JM) MV)
@[go_sem] def gI:Fc:=⟨3,.seq K4 (.seq NS (.seq (.seq IK (.cond (.t 12) (.seq I6 (.ret)) (.skip))) (.seq (.seq LT (.block 0 (.loop [0,1,2,7,8] d8))) (.seq Rb (.ret))))),[.t 6]⟩
def PK:C:=zR [1] [zq 1 (.box false 0),zm 2 (.k (.int .u64 0)),zm 3 (zi 0)]
def Lj:C:=zR [1,53] [zF 6 40 0 10 1,zL 7 10 6,zB 8 .lss 7 (zi 1),zm 9 8,zg 10 9 false (.fad 40 0 10 1),zg 11 9 false (.ld 10 10),zg 12 9 false (.bin .gtr 11 (zi 6)),zP 13 9 (.k (.bool true)) 12,zm 14 13,zg 15 14 false (.fad 40 1 10 1),zg 16 14 false (.ld 10 15),zg 17 14 false (.bin .lss 16 (zi 0)),zP 18 14 (.k (.bool true)) 17,zm 19 18,zg 20 19 false (.fad 40 1 10 1),zg 21 19 false (.ld 10 20),zg 22 19 false (.bin .gtr 21 (zi 15)),zP 23 19 (.k (.bool true)) 22,zm 24 23,zg 25 24 false (.fad 40 2 10 1),zg 26 24 false (.ld 10 25),zg 27 24 false (.bin .lss 26 (zi 0)),zP 28 24 (.k (.bool true)) 27,zm 29 28,zg 30 29 false (.fad 40 2 10 1),zg 31 29 false (.ld 10 30),zg 32 29 false (.bin .geq 31 (zi 49)),zP 33 29 (.k (.bool true)) 32,zm 34 33,zg 35 34 false (.fad 40 3 10 1),zg 36 34 false (.ld 10 35),zg 37 34 false (.bin .lss 36 (zi 0)),zP 38 34 (.k (.bool true)) 37,zm 39 38,zg 40 39 false (.fad 40 3 10 1),zg 41 39 false (.ld 10 40),zg 42 39 false (.bin .gtr 41 (zi 16777215)),zP 43 39 (.k (.bool true)) 42,zm 44 43,zg 45 44 false (.fad 40 4 10 1),zg 46 44 false (.ld 10 45),zg 47 44 false (.bin .lss 46 (zi 0)),zP 48 44 (.k (.bool true)) 47,zm 49 48,zg 50 49 false (.fad 40 4 10 1),zg 51 49 false (.ld 10 50),zg 52 49 false (.bin .gtr 51 (zi 65535)),zP 53 49 (.k (.bool true)) 52]
def IM:C:=zR [2,3] [zm 2 (.k (.int .u64 0)),zm 3 (zi 1)]
def J9:C:=zR [1,71] [zF 54 40 0 10 1,zL 55 10 54,zB 56 .eql 55 (zi 5),zm 57 56,zg 58 57 false (.fad 40 0 10 1),zg 59 57 false (.ld 10 58),zg 60 57 false (.bin .eql 59 (zi 6)),zP 61 57 (.k (.bool true)) 60,zm 62 61,zg 63 62 true (.fad 40 2 10 1),zg 64 62 true (.ld 10 63),zg 65 62 true (.bin .neq 64 (zi 0)),zg 66 62 true (.mv 65),zg 67 66 false (.fad 40 3 10 1),zg 68 66 false (.ld 10 67),zg 69 66 false (.bin .neq 68 (zi 0)),zg 70 62 true (.pick 66 (.k (.bool true)) 69),zP 71 62 70 (.k (.bool false))]
def Nv:C:=zR [2,3] [zm 2 (.k (.int .u64 0)),zm 3 (zi 1)]
def Ip:C:=zR [1,4] [zF 73 40 0 10 1,zL 74 10 73,zq 75 (.conv .u64 74),zC 76 (zf aQ) [(.k (.int .u64 0)),(zi 0),(zi 4),75],zm 72 76,zE 77 72 0,zE 78 72 1,zm 4 77,zm 5 78]
def Pq:C:=zR [1,4] [zm 80 4,zF 81 40 1 10 1,zL 82 10 81,zq 83 (.conv .u64 82),zC 84 (zf aQ) [80,(zi 4),(zi 4),83],zm 79 84,zE 85 79 0,zE 86 79 1,zm 4 85]
def Nm:C:=zR [1,4] [zm 88 4,zF 89 40 2 10 1,zL 90 10 89,zq 91 (.conv .u64 90),zC 92 (zf aQ) [88,(zi 8),(zi 16),91],zm 87 92,zE 93 87 0,zE 94 87 1,zm 4 93]
def P3:C:=zR [1,4] [zm 96 4,zF 97 40 3 10 1,zL 98 10 97,zq 99 (.conv .u64 98),zC 100 (zf aQ) [96,(zi 24),(zi 24),99],zm 95 100,zE 101 95 0,zE 102 95 1,zm 4 101]
def Ro:C:=zR [4] [zm 104 4,zF 105 40 4 10 1,zL 106 10 105,zq 107 (.conv .u64 106),zC 108 (zf aQ) [104,(zi 48),(zi 16),107],zm 103 108,zE 109 103 0,zE 110 103 1,zm 4 109]
def EB:C:=zR [2,3] [zm 111 4,zm 2 111,zm 3 (zi 0)]
@[go_sem] def ii:Fc:=⟨1,.seq PK (.seq (.seq Lj (.cond (.t 53) (.seq IM (.ret)) (.skip))) (.seq (.seq J9 (.cond (.t 71) (.seq Nv (.ret)) (.skip))) (.seq Ip (.seq Pq (.seq Nm (.seq P3 (.seq Ro (.seq EB (.ret))))))))),[.t 2,.t 3]⟩
def Rv:C:=zR [0,1] [zm 4 (zi 0)]
def Po:C:=zR [0,1,5] [zm 6 1,zm 7 0,zN 8 7,zF 9 80 0 10 8,zL 10 10 9,zB 11 .lss 6 10,zm 5 11]
def KA:C:=zR [0,1,5] [zm 12 1,zm 13 0,zN 14 13,zF 15 80 1 10 14,zL 16 10 15,zB 17 .geq 12 16,zm 5 17]
def I8:C:=zR [4] [zm 4 (zi (-1))]
def Nq:C:=zR [0,1,18] [zm 19 0,zN 20 19,zF 21 80 2 78 20,zm 22 1,zC 23 (zf dP) [21,22],zm 18 23]
def Ns:C:=zR [4] [zm 4 (zi 0)]
def JY:C:=zR [24] [zm 25 0,zN 26 25,zF 27 80 3 78 26,zm 28 1,zC 29 (zf dP) [27,28],zm 24 29]
def QV:C:=zR [4] [zm 4 (zi 2)]
def PW:C:=zR [4] [zm 4 (zi 1)]
@[go_sem] def il:Fc:=⟨2,.seq Rv (.seq (.block 0 (.seq (.seq Po (.cond (.t 5) (.skip) KA)) (.cond (.t 5) (.seq I8 (.ret)) (.seq Nq (.cond (.t 18) (.seq Ns (.ret)) (.seq JY (.cond (.t 24) (.seq QV (.ret)) (.skip)))))))) (.seq PW (.ret))),[.t 4]⟩
def Mb:C:=zR [0,1] [zm 4 (zi 0)]
def P1:C:=zD [0,1,24] [zm 5 1,zm 6 0,zN 7 6,zF 8 21 0 10 7,zL 9 10 8,zB 10 .lss 5 9,zm 11 10,zg 12 11 false (.mv 1),zg 13 11 false (.mv 0),zg 14 11 false (.nilc 13),zg 15 11 false (.fad 21 0 10 14),zg 16 11 false (.ld 10 15),zg 17 11 false (.bin .sub 12 16),zg 18 11 false (.mv 0),zg 19 11 false (.nilc 18),zg 20 11 false (.fad 21 1 1 19),zg 21 11 false (.ld 1 20),zg 22 11 false (.len false 21),zg 23 11 false (.bin .geq 17 22),zP 24 11 (.k (.bool true)) 23]
def LQ:C:=zR [4] [zm 4 (zi (-1))]
def HS:C:=zD [4] [zm 25 0,zN 26 25,zF 27 21 1 1 26,zL 28 1 27,zm 29 1,zm 30 0,zN 31 30,zF 32 21 0 10 31,zL 33 10 32,zB 34 .sub 29 33,zq 35 (.sad 10 28 34),zL 36 10 35,zm 4 36]
@[go_sem] def eo:Fc:=⟨2,.seq Mb (.seq (.seq P1 (.cond (.t 24) (.seq LQ (.ret)) (.skip))) (.seq HS (.ret))),[.t 4]⟩
def ML:C:=zR [0] [zm 2 (zi 0)]
def LW:C:=zR [0,13] [zm 3 0,zN 4 3,zF 5 33 2 0 4,zL 6 0 5,zm 7 6,zg 8 7 false (.mv 0),zg 9 7 false (.nilc 8),zg 10 7 false (.fad 33 3 10 9),zg 11 7 false (.ld 10 10),zg 12 7 false (.bin .eql 11 (zi 0)),zP 13 7 (.k (.bool true)) 12]
def IS:C:=zR [] [zm 14 0,zN 15 14,zF 16 33 2 0 15,zS 0 16 (.k (.bool true))]
def HW:C:=zR [2] [zm 2 (zi 4)]
def Mk:C:=zR [0,21] [zm 17 0,zN 18 17,zF 19 33 3 10 18,zL 20 10 19,zB 21 .gtr 20 (zi 0)]
def Ht:C:=zR [0] [zm 22 0,zN 23 22,zF 24 33 3 10 23,zL 25 10 24,zB 26 .sub 25 (zi 1),zN 27 22,zF 28 33 3 10 27,zS 10 28 26]
def KJ:C:=zR [] [zm 29 0,zN 30 29,zF 31 33 4 10 30,zL 32 10 31,zB 33 .add 32 (zi 1),zN 34 29,zF 35 33 4 10 34,zS 10 35 33]
def MU:C:=zR [2] [zm 2 (zi 0)]
@[go_sem] def eA:Fc:=⟨1,.seq ML (.seq (.seq LW (.cond (.t 13) (.seq IS (.seq HW (.ret))) (.skip))) (.seq (.seq Mk (.cond (.t 21) Ht (.skip))) (.seq KJ (.seq MU (.ret))))),[.t 2]⟩
def Mx:C:=zR [0,1] [zm 4 (zi 0)]
def J5:C:=zR [0,1,5] [zm 6 0,zm 7 1,zC 8 (zf cg) [6,7,(zi 1)],zm 5 8]
def LO:C:=zR [0,1,5,10] [zm 9 5,zB 10 .eql 9 (zi 0)]
def JE:C:=zR [5] [zm 11 0,zN 12 11,zF 13 80 3 78 12,zm 14 1,zC 15 (zf aY) [13,14]]
def Rs:C:=zR [4] [zm 16 5,zm 4 16]
@[go_sem] def it:Fc:=⟨2,.seq Mx (.seq J5 (.seq (.seq LO (.cond (.t 10) JE (.skip))) (.seq Rs (.ret)))),[.t 4]⟩
def LS:C:=zR [0,7,8] [zm 4 0,zN 5 4,zF 6 80 3 78 5,zL 7 78 6,zm 8 (zi 0)]
def N1:C:=zR [0,7,8,9] [zB 9 .lss 8 (zi 16)]
def Kn:C:=zR [0,2,3,7,8] [zm 10 8,zq 11 (.idx 78 16 7 8),zm 2 10,zm 3 11]
def RH:C:=zD [0,7,8] [zm 12 0,zm 13 2,zN 14 12,zF 15 80 2 78 14,zq 16 (.iad 78 16 18 15 13),zL 17 18 16,zm 18 3,zB 19 .or 17 18,zN 20 12,zF 21 80 2 78 20,zq 22 (.iad 78 16 18 21 13),zS 18 22 19]
def My:C:=zR [0,7,8] [zB 23 .add 8 (zi 1),zm 8 23]
def Ou:C:=zR [] [zm 24 0,zq 25 (.bld (.agg 78 (List.replicate 16 (.int .u64 0))) []),zN 26 24,zF 27 80 3 78 26,zS 78 27 25]
def cS:C:=.seq N1 (.seq (.cond (.t 9) (.skip) (.exit 0)) (.seq (.block 1 (.seq Kn RH)) My))
@[go_sem] def gJ:Fc:=⟨1,.seq (.seq LS (.block 0 (.loop [0,7,8] cS))) Ou,[]⟩
def En:C:=zR [0,1,2] [zm 6 (.k (.bool false))]
def EY:C:=zR [6] [zm 7 0,zm 8 1,zB 9 .geq 7 8,zm 10 9,zg 11 10 true (.mv 0),zg 12 10 true (.mv 2),zg 13 10 true (.bin .leq 11 12),zP 14 10 13 (.k (.bool false)),zm 6 14]
@[go_sem] def mc:Fc:=⟨3,.seq En (.seq EY (.ret)),[.t 6]⟩
def DS:C:=zR [0,1] [zm 4 (.k (.bool false))]
def Fk:C:=zR [4] [zm 5 0,zB 6 .geq 5 (zi 0),zm 7 6,zg 8 7 true (.mv 0),zg 9 7 true (.bin .leq 8 (zi 63)),zP 10 7 9 (.k (.bool false)),zm 11 10,zg 12 11 true (.mv 1),zg 13 11 true (.bin .geq 12 (zi 1)),zP 14 11 13 (.k (.bool false)),zm 15 14,zg 16 15 true (.mv 1),zg 17 15 true (.bin .leq 16 (zi 64)),zP 18 15 17 (.k (.bool false)),zm 19 18,zg 20 19 true (.mv 0),zg 21 19 true (.mv 1),zg 22 19 true (.bin .add 20 21),zg 23 19 true (.bin .leq 22 (zi 64)),zP 24 19 23 (.k (.bool false)),zm 4 24]
@[go_sem] def jg:Fc:=⟨2,.seq DS (.seq Fk (.ret)),[.t 4]⟩
def Ew:C:=zR [0,1] [zm 4 (.k (.int .u64 0))]
def Fa:C:=zR [4] [zm 5 0,zm 6 1,zB 7 .shr 5 6,zB 8 .and 7 (.k (.int .u64 1)),zm 4 8]
@[go_sem] def iD:Fc:=⟨2,.seq Ew (.seq Fa (.ret)),[.t 4]⟩
def Eh:C:=zR [0,1,2,3] [zm 8 (.k (.int .u64 0)),zm 9 (zi 0)]
def Ei:C:=zR [0,1,2,3,15] [zm 12 1,zm 13 2,zC 14 (zf dw) [12,13],zq 15 (.un .not 14)]
def Ez:C:=zR [8,9] [zm 8 (.k (.int .u64 0)),zm 9 (zi 1)]
def C7:C:=zR [0,1,2,3,10] [zm 16 2,zm 10 16]
def D7:C:=zR [0,1,2,3,10,18] [zm 17 10,zB 18 .lss 17 (zi 64)]
def Cw:C:=zR [0,1,2,3,10,24] [zm 21 3,zm 22 10,zC 23 (zf be) [21,22],zB 24 .eql 23 (.k (.int .u64 1))]
def Cu:C:=zR [8,9] [zm 8 (.k (.int .u64 0)),zm 9 (zi 2)]
def EG:C:=zR [0,1,2,3,10] [zm 19 10,zB 20 .add 19 (zi 1),zm 10 20]
def Cx:C:=zR [0,1,2,3,11] [zm 11 (zi 0)]
def E6:C:=zR [0,1,2,3,11,27] [zm 25 11,zm 26 2,zB 27 .lss 25 26]
def zQ:C:=zR [0,1,2,3,11,38] [zm 30 3,zm 31 11,zC 32 (zf be) [30,31],zm 33 0,zm 34 1,zm 35 11,zB 36 .add 34 35,zC 37 (zf be) [33,36],zB 38 .neq 32 37]
def z6:C:=zR [0,1,2,3,11] [zm 39 0,zm 40 1,zm 41 11,zB 42 .add 40 41,zB 43 .shl (.k (.int .u64 1)) 42,zB 44 .xor 39 43,zm 0 44]
def Ae:C:=zR [0,1,2,3,11] [zm 28 11,zB 29 .add 28 (zi 1),zm 11 29]
def Au:C:=zR [8,9] [zm 45 0,zm 8 45,zm 9 (zi 0)]
def eK:C:=.seq (.seq D7 (.cond (.t 18) (.skip) (.exit 0))) (.seq (.block 1 (.seq Cw (.cond (.t 24) (.seq Cu (.ret)) (.skip)))) EG)
def dk:C:=.seq (.seq E6 (.cond (.t 27) (.skip) (.exit 2))) (.seq (.block 3 (.seq zQ (.cond (.t 38) z6 (.skip)))) Ae)
@[go_sem] def ic:Fc:=⟨4,.seq Eh (.seq (.seq Ei (.cond (.t 15) (.seq Ez (.ret)) (.skip))) (.seq (.seq C7 (.block 0 (.loop [0,1,2,3,10] eK))) (.seq (.seq Cx (.block 2 (.loop [0,1,2,3,11] dk))) (.seq Au (.ret))))),[.t 8,.t 9]⟩
def Ec:C:=zR [0,1] [zm 4 (.k (.bool false))]
def DY:C:=zR [4] [zm 5 0,zm 6 1,zB 7 .quo 6 (zi 64),zN 8 5,zq 9 (.iad 78 16 18 8 7),zL 10 18 9,zm 11 1,zB 12 .rem 11 (zi 64),zB 13 .shr 10 12,zB 14 .and 13 (.k (.int .u64 1)),zB 15 .eql 14 (.k (.int .u64 1)),zm 4 15]
@[go_sem] def j9:Fc:=⟨2,.seq Ec (.seq DY (.ret)),[.t 4]⟩
def D : Nat → Option Fc
  | 3 => some eE
  | 4 => some j7
  | 5 => some hU
  | 6 => some pO
  | 7 => some iz
  | 8 => some mS
  | 9 => some gD
  | 10 => some kD
  | 11 => some ji
  | 12 => some jS
  | 13 => some eH
  | 14 => some iH
  | 15 => some ed
  | 16 => some jE
  | 17 => some ie
  | 18 => some iE
  | 19 => some jh
  | 20 => some iO
  | 21 => some ir
  | 22 => some jo
  | 23 => some fz
  | 24 => some ip
  | 25 => some eB
  | 26 => some iI
  | 27 => some eS
  | 28 => some ig
  | 29 => some jw
  | 30 => some jR
  | 31 => some eF
  | 32 => some ia
  | 33 => some jf
  | 34 => some mQ
  | 35 => some jD
  | 36 => some iN
  | 37 => some ib
  | 38 => some iP
  | 39 => some gz
  | 40 => some eC
  | 41 => some ij
  | 42 => some gj
  | 43 => some fX
  | 44 => some iq
  | 45 => some i9
  | 46 => some jy
  | 47 => some jb
  | 48 => some jx
  | 49 => some iC
  | 50 => some ft
  | 51 => some eU
  | 52 => some ja
  | 53 => some fA
  | 54 => some eT
  | 55 => some gF
  | 56 => some dZ
  | 57 => some io
  | 58 => some eG
  | 59 => some iJ
  | 60 => some eP
  | 61 => some fP
  | 62 => some qf
  | 63 => some lQ
  | 64 => some jn
  | 65 => some gH
  | 66 => some mV
  | 67 => some ik
  | 68 => some iG
  | 69 => some gC
  | 70 => some iV
  | 71 => some eI
  | 72 => some kq
  | 73 => some fB
  | 74 => some eV
  | 75 => some jP
  | 76 => some jz
  | 77 => some jc
  | 78 => some ew
  | 79 => some eQ
  | 80 => some jM
  | 81 => some gi
  | 82 => some fj
  | 83 => some em
  | 84 => some ff
  | 85 => some iK
  | 86 => some nB
  | 87 => some eD
  | 88 => some iy
  | 89 => some gG
  | 90 => some eR
  | 91 => some i5
  | 92 => some oI
  | 93 => some gI
  | 94 => some ii
  | 95 => some il
  | 96 => some eo
  | 97 => some eA
  | 98 => some it
  | 99 => some gJ
  | 100 => some mc
  | 101 => some jg
  | 102 => some iD
  | 103 => some ic
  | 104 => some j9
  | _ => none
theorem ma:D iL = some eE:=rfl
theorem pd:D aC = some hU:=rfl
theorem Dv:D kC = some pO:=rfl
theorem qB:D ei = some iz:=rfl
theorem kT:D dE = some mS:=rfl
theorem oO:D ct = some gD:=rfl
theorem jB:D bv = some ji:=rfl
theorem sB:D iw = some jS:=rfl
theorem lM:D cW = some eH:=rfl
theorem pR:D fR = some iH:=rfl
theorem iv:D aU = some ed:=rfl
theorem rp:D gL = some jE:=rfl
theorem oZ:D fN = some ie:=rfl
theorem i7:D cn = some iE:=rfl
theorem cB:D bU = some jh:=rfl
theorem kJ:D da = some iO:=rfl
theorem bz:D fE = some ir:=rfl
theorem lE:D eN = some jo:=rfl
theorem jq:D dL = some fz:=rfl
theorem pv:D dT = some ip:=rfl
theorem lX:D dg = some eB:=rfl
theorem i6:D bL = some iI:=rfl
theorem fC:D bA = some eS:=rfl
theorem pz:D fF = some ig:=rfl
theorem rL:D gV = some jw:=rfl
theorem mZ:D cA = some jR:=rfl
theorem iQ:D aW = some eF:=rfl
theorem pC:D cG = some ia:=rfl
theorem qV:D gu = some jf:=rfl
theorem rM:D iT = some mQ:=rfl
theorem rl:D ch = some jD:=rfl
theorem kV:D co = some iN:=rfl
theorem pE:D bD = some ib:=rfl
theorem li:D ef = some iP:=rfl
theorem oz:D aL = some gz:=rfl
theorem lK:D br = some eC:=rfl
theorem kw:D bB = some ij:=rfl
theorem nX:D eJ = some gj:=rfl
theorem jN:D ec = some fX:=rfl
theorem pb:D dU = some iq:=rfl
theorem lD:D dB = some i9:=rfl
theorem rF:D bf = some jy:=rfl
theorem qU:D bw = some jb:=rfl
theorem gQ:D dV = some jx:=rfl
theorem qG:D bp = some iC:=rfl
theorem bi:D dK = some ft:=rfl
theorem fw:D dq = some eU:=rfl
theorem jA:D gt = some ja:=rfl
theorem fO:D dN = some fA:=rfl
theorem iY:D dv = some eT:=rfl
theorem kf:D eY = some gF:=rfl
theorem iu:D cJ = some dZ:=rfl
theorem kx:D fM = some io:=rfl
theorem iB:D cZ = some eG:=rfl
theorem pY:D cY = some iJ:=rfl
theorem mw:D bE = some eP:=rfl
theorem ni:D aX = some fP:=rfl
theorem Ce:D ky = some qf:=rfl
theorem vU:D kj = some lQ:=rfl
theorem lC:D dA = some jn:=rfl
theorem oK:D eZ = some gH:=rfl
theorem xz:D kK = some mV:=rfl
theorem pF:D fJ = some ik:=rfl
theorem qk:D fV = some iG:=rfl
theorem om:D eX = some gC:=rfl
theorem qc:D d9 = some iV:=rfl
theorem lH:D aI = some eI:=rfl
theorem uw:D fH = some kq:=rfl
theorem mN:D bH = some fB:=rfl
theorem mA:D dt = some eV:=rfl
theorem mY:D aY = some jP:=rfl
theorem rn:D cg = some jz:=rfl
theorem lF:D bx = some jc:=rfl
theorem lU:D aO = some ew:=rfl
theorem mF:D du = some eQ:=rfl
theorem sE:D ep = some jM:=rfl
theorem nW:D eL = some gi:=rfl
theorem mP:D aZ = some fj:=rfl
theorem cM:D bn = some em:=rfl
theorem jp:D bI = some ff:=rfl
theorem kZ:D cT = some iK:=rfl
theorem yD:D mi = some nB:=rfl
theorem lS:D bd = some eD:=rfl
theorem qm:D fT = some iy:=rfl
theorem oq:D cv = some gG:=rfl
theorem mz:D bC = some eR:=rfl
theorem lG:D bb = some i5:=rfl
theorem Bh:D nk = some oI:=rfl
theorem oG:D aK = some gI:=rfl
theorem pM:D fK = some ii:=rfl
theorem iU:D bX = some il:=rfl
theorem eu:D cO = some eo:=rfl
theorem lV:D cU = some eA:=rfl
theorem kz:D cH = some it:=rfl
theorem oo:D dH = some gJ:=rfl
theorem wg:D bV = some mc:=rfl
theorem qX:D dw = some jg:=rfl
theorem qv:D be = some iD:=rfl
theorem pi:D aQ = some ic:=rfl
theorem nE:D dP = some j9:=rfl
@[go_sem]theorem ajj:rc D b Vd ρ s=(fun v0 v1 v2=>(if V.ok v0 && ay false v0 then let x0:V:=.ptr (St.fresh s false) [] (V.tag v0); let s0:St:=St.new s false v0; some (.normal,[(1,v1),(2,v2),(3,x0)],s0) else none:OR)) (get ρ 0) (get ρ 1) (get ρ 2):=zr
@[go_sem]theorem ajt:rc D b UB ρ s=(fun v1 v2 v3=>(aa (rf D fd [] s) fun x0=>some (.normal,[(1,v1),(2,v2),(3,v3),(7,x0.1)],x0.2):OR)) (get ρ 1) (get ρ 2) (get ρ 3):=zr
@[go_sem]theorem ajp:rc D b Vk ρ s=(fun v1 v2 v3 v7=>(aa (bc 22 2 10 v3 (.int .i64 0)) fun x0=>aa (ldv s 10 x0) fun x1=>aa (rf D aC [x1,(.int .i64 64)] s) fun x2=>aa (ac .add (.int .i64 64) x2.1) fun x3=>some (.normal,[(1,v1),(2,v2),(3,v3),(7,v7),(8,x3)],x2.2):OR)) (get ρ 1) (get ρ 2) (get ρ 3) (get ρ 7):=zr
@[go_sem]theorem ai4:rc D b UP ρ s=(fun v1 v2 v3 v7 v8=>(aa (rf D kC [v8] s) fun x0=>aa (aw 0 x0.1) fun x1=>aa (aw 1 x0.1) fun _x2=>some (.normal,[(1,v1),(2,v2),(3,v3),(7,v7),(8,v8),(9,x1)],x0.2):OR)) (get ρ 1) (get ρ 2) (get ρ 3) (get ρ 7) (get ρ 8):=zr
@[go_sem]theorem ajq:rc D b UD ρ s=(fun v1 v2 v3 v7 v8 v9=>(aa (rf D ei [v8] s) fun x0=>aa (aw 0 x0.1) fun x1=>aa (aw 1 x0.1) fun _x2=>some (.normal,[(1,v1),(2,v2),(3,v3),(7,v7),(8,v8),(9,v9),(11,x1)],x0.2):OR)) (get ρ 1) (get ρ 2) (get ρ 3) (get ρ 7) (get ρ 8) (get ρ 9):=zr
@[go_sem]theorem ajg:rc D b U2 ρ s=(fun v1 v2 v3 v7 v8 v9 v11=>(aa (vun .not v7) fun x0=>al x0 false (aa (eqv false 1 v9 .nilp) fun x1=>some (.normal,[(1,v1),(2,v2),(3,v3),(8,v8),(9,v9),(11,v11),(66,x1)],s)) (some (.normal,[(1,v1),(2,v2),(3,v3),(8,v8),(9,v9),(11,v11),(66,(.bool true))],s)) (none):OR)) (get ρ 1) (get ρ 2) (get ρ 3) (get ρ 7) (get ρ 8) (get ρ 9) (get ρ 11):=zr
@[go_sem]theorem ajF:rc D b U0 ρ s= some (.normal,[(6,(.bool false))],s):=zr
@[go_sem]theorem ai5:rc D b Vq ρ s=(fun v1 v2 v3 v8 v9 v11=>(aa (bc 22 2 10 v3 (.int .i64 1)) fun x0=>aa (ldv s 10 x0) fun x1=>aa (rf D aC [x1,(.int .i64 31)] s) fun x2=>aa (rf D ct [x2.1] x2.2) fun x3=>aa (rf D bq [] x3.2) fun x4=>aa (rf D dE [v9,(.int .i64 10),x3.1,x4.1] x4.2) fun x5=>aa (aw 0 x5.1) fun x6=>aa (aw 1 x5.1) fun x7=>some (.normal,[(1,v1),(2,v2),(3,v3),(8,v8),(9,v9),(11,v11),(13,x6),(14,x7)],x5.2):OR)) (get ρ 1) (get ρ 2) (get ρ 3) (get ρ 8) (get ρ 9) (get ρ 11):=zr
@[go_sem]theorem ajk:rc D b Vi ρ s=(fun v1 v2 v3 v8 v9 v11 v13 v14=>(aa (bc 22 2 10 v3 (.int .i64 1)) fun x0=>aa (ldv s 10 x0) fun x1=>aa (rf D aC [x1,(.int .i64 31)] s) fun x2=>aa (rf D ct [x2.1] x2.2) fun x3=>aa (rf D bq [] x3.2) fun x4=>aa (rf D bv [v11,(.int .i64 10),x3.1,x4.1] x4.2) fun x5=>aa (aw 0 x5.1) fun x6=>aa (aw 1 x5.1) fun x7=>some (.normal,[(1,v1),(2,v2),(8,v8),(9,v9),(11,v11),(13,v13),(14,v14),(15,x6),(16,x7)],x5.2):OR)) (get ρ 1) (get ρ 2) (get ρ 3) (get ρ 8) (get ρ 9) (get ρ 11) (get ρ 13) (get ρ 14):=zr
@[go_sem]theorem ajx:rc D b Vm ρ s=(fun v1 v2 v8 v9 v11 v13 v14 v15 v16=>(aa (eqv false 1 v13 .nilp) fun x0=>al x0 false (aa (ac .neq v14 (.int .i64 0)) fun x1=>al x1 false (aa (ac .neq v16 (.int .i64 0)) fun x2=>some (.normal,[(1,v1),(2,v2),(8,v8),(9,v9),(11,v11),(13,v13),(15,v15),(96,x2)],s)) (some (.normal,[(1,v1),(2,v2),(8,v8),(9,v9),(11,v11),(13,v13),(15,v15),(96,(.bool true))],s)) (none)) (some (.normal,[(1,v1),(2,v2),(8,v8),(9,v9),(11,v11),(13,v13),(15,v15),(96,(.bool true))],s)) (none):OR)) (get ρ 1) (get ρ 2) (get ρ 8) (get ρ 9) (get ρ 11) (get ρ 13) (get ρ 14) (get ρ 15) (get ρ 16):=zr
@[go_sem]theorem ag3:rc D b PJ ρ s= some (.normal,[(6,(.bool false))],s):=zr
@[go_sem]theorem aaK:rc D b Is ρ s=(fun v1 v2 v8 v9 v11 v13 v15=>(aa (rf D iw [v9,v2] s) fun x0=>some (.normal,[(1,v1),(2,v2),(8,v8),(9,v9),(11,v11),(13,v13),(15,v15)],x0.2):OR)) (get ρ 1) (get ρ 2) (get ρ 8) (get ρ 9) (get ρ 11) (get ρ 13) (get ρ 15):=zr
@[go_sem]theorem acy:rc D b PR ρ s=(fun v1 v2 v8 v9 v11 v13 v15=>(aa (rf D cW [v11,v2] s) fun x0=>some (.normal,[(1,v1),(8,v8),(9,v9),(11,v11),(13,v13),(15,v15)],x0.2):OR)) (get ρ 1) (get ρ 2) (get ρ 8) (get ρ 9) (get ρ 11) (get ρ 13) (get ρ 15):=zr
@[go_sem]theorem ade:rc D b JZ ρ s=(fun v1 v8 v9 v11 v13 v15=>(aa (kn false 38 10 0 (.int .i64 0) s []) fun x0=>some (.normal,[(1,v1),(8,v8),(9,v9),(11,v11),(13,v13),(15,v15),(17,x0.1)],x0.2):OR)) (get ρ 1) (get ρ 8) (get ρ 9) (get ρ 11) (get ρ 13) (get ρ 15):=zr
@[go_sem]theorem abd:rc D b Jn ρ s=(fun v1 v8 v9 v11 v13 v15 v17=>(some (.normal,[(1,v1),(8,v8),(9,v9),(11,v11),(13,v13),(15,v15),(17,v17),(18,(.int .i64 0))],s):OR)) (get ρ 1) (get ρ 8) (get ρ 9) (get ρ 11) (get ρ 13) (get ρ 15) (get ρ 17):=zr
@[go_sem]theorem ag0:rc D b JD ρ s=(fun v1 v8 v9 v11 v13 v15 v17 v18=>(aa (V.slen false v1) fun x0=>aa (ac .lss v18 (.int .i64 x0)) fun x1=>al x1 true (aa (ac .lss v18 (.int .i64 80)) fun x2=>some (.normal,[(1,v1),(8,v8),(9,v9),(11,v11),(13,v13),(15,v15),(17,v17),(18,v18),(111,x2)],s)) (some (.normal,[(1,v1),(8,v8),(9,v9),(11,v11),(13,v13),(15,v15),(17,v17),(18,v18),(111,(.bool false))],s)) (none):OR)) (get ρ 1) (get ρ 8) (get ρ 9) (get ρ 11) (get ρ 13) (get ρ 15) (get ρ 17) (get ρ 18):=zr
@[go_sem]theorem adK:rc D b LA ρ s=(fun v1 v8 v9 v11 v13 v15 v17 v18=>(aa (cl 54 v1 v18) fun x0=>aa (ldv s 54 x0) fun x1=>let x2:V:=.ptr (St.fresh s false) [] 54; let s2:St:=St.new s false (.agg 54 [(.int .i64 0),(.int .i64 0),(.int .i64 0),(.int .u64 0)]); aa (stv b s2 54 x1 x2) fun s3=>some (.normal,[(1,v1),(8,v8),(9,v9),(11,v11),(13,v13),(15,v15),(17,v17),(18,v18),(19,x2)],s3):OR)) (get ρ 1) (get ρ 8) (get ρ 9) (get ρ 11) (get ρ 13) (get ρ 15) (get ρ 17) (get ρ 18):=zr
@[go_sem]theorem ag5:rc D b NU ρ s=(fun v1 v8 v9 v11 v13 v15 v17 v18 v19=>(aa (ae 54 0 10 v19) fun x0=>aa (ldv s 10 x0) fun x1=>aa (rf D aC [x1,(.int .i64 12)] s) fun x2=>aa (ac .eql x2.1 (.int .i64 7)) fun x3=>some (.normal,[(1,v1),(8,v8),(9,v9),(11,v11),(13,v13),(15,v15),(17,v17),(18,v18),(19,v19),(121,x3)],x2.2):OR)) (get ρ 1) (get ρ 8) (get ρ 9) (get ρ 11) (get ρ 13) (get ρ 15) (get ρ 17) (get ρ 18) (get ρ 19):=zr
@[go_sem]theorem Zq:rc D b Na ρ s=(fun v1 v8 v9 v11 v13 v15 v17 v18 v19=>(aa (rf D fR [v13] s) fun x0=>aa (aw 0 x0.1) fun x1=>aa (aw 1 x0.1) fun x2=>some (.normal,[(1,v1),(8,v8),(9,v9),(11,v11),(13,v13),(15,v15),(17,v17),(18,v18),(19,v19),(20,x1),(21,x2)],x0.2):OR)) (get ρ 1) (get ρ 8) (get ρ 9) (get ρ 11) (get ρ 13) (get ρ 15) (get ρ 17) (get ρ 18) (get ρ 19):=zr
@[go_sem]theorem abc:rc D b Rn ρ s=(fun v1 v8 v9 v11 v13 v15 v17 v18 v19 v20 v21=>(aa (ag v15) fun x0=>aa (ae 31 1 1 x0) fun x1=>aa (ldv s 1 x1) fun x2=>aa (rf D aU [x2] s) fun x3=>aa (aw 0 x3.1) fun x4=>aa (aw 1 x3.1) fun x5=>some (.normal,[(1,v1),(8,v8),(9,v9),(11,v11),(13,v13),(15,v15),(17,v17),(18,v18),(19,v19),(20,v20),(21,v21),(22,x4),(23,x5)],x3.2):OR)) (get ρ 1) (get ρ 8) (get ρ 9) (get ρ 11) (get ρ 13) (get ρ 15) (get ρ 17) (get ρ 18) (get ρ 19) (get ρ 20) (get ρ 21):=zr
@[go_sem]theorem acb:rc D b Ir ρ s=(fun v1 v8 v9 v11 v13 v15 v17 v18 v19 v20 v21 v22 v23=>(aa (ac .neq v20 v22) fun x0=>al x0 false (aa (ac .neq v21 v23) fun x1=>some (.normal,[(1,v1),(8,v8),(9,v9),(11,v11),(13,v13),(15,v15),(17,v17),(18,v18),(19,v19),(20,v20),(21,v21),(142,x1)],s)) (some (.normal,[(1,v1),(8,v8),(9,v9),(11,v11),(13,v13),(15,v15),(17,v17),(18,v18),(19,v19),(20,v20),(21,v21),(142,(.bool true))],s)) (none):OR)) (get ρ 1) (get ρ 8) (get ρ 9) (get ρ 11) (get ρ 13) (get ρ 15) (get ρ 17) (get ρ 18) (get ρ 19) (get ρ 20) (get ρ 21) (get ρ 22) (get ρ 23):=zr
@[go_sem]theorem ahB:rc D b PY ρ s= some (.normal,[(6,(.bool false))],s):=zr
@[go_sem]theorem ain:rc D b Lg ρ s=(fun v1 v8 v9 v11 v13 v15 v17 v18 v19 v20 v21=>(aa (ac .eql v21 (.int .i64 0)) fun x0=>some (.normal,[(1,v1),(8,v8),(9,v9),(11,v11),(13,v13),(15,v15),(17,v17),(18,v18),(19,v19),(20,v20),(144,x0)],s):OR)) (get ρ 1) (get ρ 8) (get ρ 9) (get ρ 11) (get ρ 13) (get ρ 15) (get ρ 17) (get ρ 18) (get ρ 19) (get ρ 20) (get ρ 21):=zr
@[go_sem]theorem ahc:rc D b Pc ρ s=(fun v1 v8 v9 v11 v13 v15 v17 v18 v19 v20=>(aa (kn false 38 10 1 (.int .i64 0) s [(0,v20)]) fun x0=>aa (aA b true 38 10 v17 x0.1 x0.2) fun x1=>some (.normal,[(1,v1),(8,v8),(9,v9),(11,v11),(13,v13),(15,v15),(17,x1.1),(18,v18),(19,v19)],x1.2):OR)) (get ρ 1) (get ρ 8) (get ρ 9) (get ρ 11) (get ρ 13) (get ρ 15) (get ρ 17) (get ρ 18) (get ρ 19) (get ρ 20):=zr
@[go_sem]theorem afi:rc D b Rx ρ s=(fun v1 v8 v9 v11 v13 v15 v17 v18 v19=>(aa (ae 54 0 10 v19) fun x0=>aa (ldv s 10 x0) fun x1=>aa (rf D aC [x1,(.int .i64 12)] s) fun x2=>aa (ac .eql x2.1 (.int .i64 11)) fun x3=>some (.normal,[(1,v1),(8,v8),(9,v9),(11,v11),(13,v13),(15,v15),(17,v17),(18,v18),(19,v19),(152,x3)],x2.2):OR)) (get ρ 1) (get ρ 8) (get ρ 9) (get ρ 11) (get ρ 13) (get ρ 15) (get ρ 17) (get ρ 18) (get ρ 19):=zr
@[go_sem]theorem ZI:rc D b N7 ρ s=(fun v1 v8 v9 v11 v13 v15 v17 v18 v19=>(aa (rf D gL [v9] s) fun x0=>some (.normal,[(1,v1),(8,v8),(9,x0.1),(11,v11),(13,v13),(15,v15),(17,v17),(18,v18),(19,v19)],x0.2):OR)) (get ρ 1) (get ρ 8) (get ρ 9) (get ρ 11) (get ρ 13) (get ρ 15) (get ρ 17) (get ρ 18) (get ρ 19):=zr
@[go_sem]theorem ahd:rc D b Mn ρ s=(fun v1 v8 v9 v11 v13 v15 v17 v18 v19=>(aa (eqv false 1 v9 .nilp) fun x0=>some (.normal,[(1,v1),(8,v8),(9,v9),(11,v11),(13,v13),(15,v15),(17,v17),(18,v18),(19,v19),(156,x0)],s):OR)) (get ρ 1) (get ρ 8) (get ρ 9) (get ρ 11) (get ρ 13) (get ρ 15) (get ρ 17) (get ρ 18) (get ρ 19):=zr
@[go_sem]theorem abw:rc D b KU ρ s= some (.normal,[(6,(.bool false))],s):=zr
@[go_sem]theorem aa9:rc D b HY ρ s=(fun v1 v8 v9 v11 v13 v15 v17 v18 v19=>(some (.normal,[(1,v1),(8,v8),(9,v9),(11,v11),(13,v13),(15,v15),(17,v17),(18,v18),(19,v19),(24,v13)],s):OR)) (get ρ 1) (get ρ 8) (get ρ 9) (get ρ 11) (get ρ 13) (get ρ 15) (get ρ 17) (get ρ 18) (get ρ 19):=zr
@[go_sem]theorem abU:rc D b Re ρ s=(fun v1 v8 v9 v11 v13 v15 v17 v18 v19 v24=>(aa (rf D fN [v13,v9] s) fun x0=>some (.normal,[(1,v1),(8,v8),(9,v9),(11,v11),(13,x0.1),(15,v15),(17,v17),(18,v18),(19,v19),(24,v24)],x0.2):OR)) (get ρ 1) (get ρ 8) (get ρ 9) (get ρ 11) (get ρ 13) (get ρ 15) (get ρ 17) (get ρ 18) (get ρ 19) (get ρ 24):=zr
@[go_sem]theorem afp:rc D b Oi ρ s=(fun v1 v8 v9 v11 v13 v15 v17 v18 v19 v24=>(aa (eqv false 1 v13 .nilp) fun x0=>some (.normal,[(1,v1),(8,v8),(9,v9),(11,v11),(13,v13),(15,v15),(17,v17),(18,v18),(19,v19),(24,v24),(162,x0)],s):OR)) (get ρ 1) (get ρ 8) (get ρ 9) (get ρ 11) (get ρ 13) (get ρ 15) (get ρ 17) (get ρ 18) (get ρ 19) (get ρ 24):=zr
@[go_sem]theorem aaH:rc D b Lw ρ s= some (.normal,[(6,(.bool false))],s):=zr
@[go_sem]theorem abR:rc D b MC ρ s=(fun v1 v8 v9 v11 v13 v15 v17 v18 v19 v24=>(aa (rf D cn [v24,(.int .i64 1)] s) fun x0=>some (.normal,[(1,v1),(8,v8),(9,v9),(11,v11),(13,v13),(15,v15),(17,v17),(18,v18),(19,v19),(24,v24)],x0.2):OR)) (get ρ 1) (get ρ 8) (get ρ 9) (get ρ 11) (get ρ 13) (get ρ 15) (get ρ 17) (get ρ 18) (get ρ 19) (get ρ 24):=zr
@[go_sem]theorem aia:rc D b OB ρ s=(fun v1 v8 v9 v11 v13 v15 v17 v18 v19 v24=>(aa (rf D bU [v24,(.int .i64 0),(.int .i64 0),(.int .u64 99)] s) fun x0=>some (.normal,[(1,v1),(8,v8),(9,v9),(11,v11),(13,v13),(15,v15),(17,v17),(18,v18),(19,v19),(24,v24)],x0.2):OR)) (get ρ 1) (get ρ 8) (get ρ 9) (get ρ 11) (get ρ 13) (get ρ 15) (get ρ 17) (get ρ 18) (get ρ 19) (get ρ 24):=zr
@[go_sem]theorem ZH:rc D b QB ρ s=(fun v1 v8 v9 v11 v13 v15 v17 v18 v19 v24=>(aa (rf D da [v24] s) fun x0=>some (.normal,[(1,v1),(8,v8),(9,v9),(11,v11),(13,v13),(15,v15),(17,v17),(18,v18),(19,v19)],x0.2):OR)) (get ρ 1) (get ρ 8) (get ρ 9) (get ρ 11) (get ρ 13) (get ρ 15) (get ρ 17) (get ρ 18) (get ρ 19) (get ρ 24):=zr
@[go_sem]theorem ac5:rc D b O9 ρ s=(fun v1 v8 v9 v11 v13 v15 v17 v18 v19=>(aa (ldv s 54 v19) fun x0=>aa (rf D fE [v13,v15,x0,v17] s) fun x1=>some (.normal,[(1,v1),(8,v8),(9,v9),(11,v11),(13,v13),(15,v15),(17,v17),(18,v18),(19,v19),(25,x1.1)],x1.2):OR)) (get ρ 1) (get ρ 8) (get ρ 9) (get ρ 11) (get ρ 13) (get ρ 15) (get ρ 17) (get ρ 18) (get ρ 19):=zr
@[go_sem]theorem aiz:rc D b Mr ρ s=(fun v1 v8 v9 v11 v13 v15 v17 v18 v19 v25=>(aa (ae 54 1 10 v19) fun x0=>aa (ldv s 10 x0) fun x1=>aa (rf D eN [v13,x1] s) fun x2=>aa (aw 0 x2.1) fun x3=>aa (aw 1 x2.1) fun x4=>let x5:V:=.ptr (St.fresh x2.2 false) [] 26; let s5:St:=St.new x2.2 false (.agg 26 [(.int .i64 0),(.int .i64 0),(.agg 24 (List.replicate 8 (.int .u64 0)))]); aa (stv b s5 26 x3 x5) fun s6=>some (.normal,[(1,v1),(8,v8),(9,v9),(11,v11),(13,v13),(15,v15),(17,v17),(18,v18),(19,v19),(25,v25),(26,x5),(27,x4)],s6):OR)) (get ρ 1) (get ρ 8) (get ρ 9) (get ρ 11) (get ρ 13) (get ρ 15) (get ρ 17) (get ρ 18) (get ρ 19) (get ρ 25):=zr
@[go_sem]theorem aic:rc D b I0 ρ s=(fun v1 v8 v9 v11 v13 v15 v17 v18 v19 v25 v26 v27=>(aa (ae 54 1 10 v19) fun x0=>aa (ldv s 10 x0) fun x1=>aa (rf D dL [v15,x1] s) fun x2=>aa (aw 0 x2.1) fun x3=>aa (aw 1 x2.1) fun x4=>let x5:V:=.ptr (St.fresh x2.2 false) [] 26; let s5:St:=St.new x2.2 false (.agg 26 [(.int .i64 0),(.int .i64 0),(.agg 24 (List.replicate 8 (.int .u64 0)))]); aa (stv b s5 26 x3 x5) fun s6=>some (.normal,[(1,v1),(8,v8),(9,v9),(11,v11),(13,v13),(15,v15),(17,v17),(18,v18),(19,v19),(25,v25),(26,v26),(27,v27),(28,x5),(29,x4)],s6):OR)) (get ρ 1) (get ρ 8) (get ρ 9) (get ρ 11) (get ρ 13) (get ρ 15) (get ρ 17) (get ρ 18) (get ρ 19) (get ρ 25) (get ρ 26) (get ρ 27):=zr
@[go_sem]theorem ah0:rc D b Hp ρ s=(fun v1 v8 v9 v11 v13 v15 v17 v18 v19 v25 v26 v27 v28 v29=>(aa (ae 54 3 18 v19) fun x0=>aa (ldv s 18 x0) fun x1=>aa (rf D dT [v13,x1] s) fun x2=>aa (aw 0 x2.1) fun x3=>aa (aw 1 x2.1) fun x4=>some (.normal,[(1,v1),(8,v8),(9,v9),(11,v11),(13,v13),(15,v15),(17,v17),(18,v18),(19,v19),(25,v25),(26,v26),(27,v27),(28,v28),(29,v29),(30,x3),(31,x4)],x2.2):OR)) (get ρ 1) (get ρ 8) (get ρ 9) (get ρ 11) (get ρ 13) (get ρ 15) (get ρ 17) (get ρ 18) (get ρ 19) (get ρ 25) (get ρ 26) (get ρ 27) (get ρ 28) (get ρ 29):=zr
@[go_sem]theorem Zx:rc D b Oy ρ s=(fun v1 v8 v9 v11 v13 v15 v17 v18 v19 v25 v26 v27 v28 v29 v30 v31=>(aa (ae 54 3 18 v19) fun x0=>aa (ldv s 18 x0) fun x1=>aa (rf D dg [v15,x1] s) fun x2=>aa (aw 0 x2.1) fun x3=>aa (aw 1 x2.1) fun x4=>some (.normal,[(1,v1),(8,v8),(9,v9),(11,v11),(13,v13),(15,v15),(17,v17),(18,v18),(19,v19),(25,v25),(26,v26),(27,v27),(28,v28),(29,v29),(30,v30),(31,v31),(32,x3),(33,x4)],x2.2):OR)) (get ρ 1) (get ρ 8) (get ρ 9) (get ρ 11) (get ρ 13) (get ρ 15) (get ρ 17) (get ρ 18) (get ρ 19) (get ρ 25) (get ρ 26) (get ρ 27) (get ρ 28) (get ρ 29) (get ρ 30) (get ρ 31):=zr
@[go_sem]theorem ahW:rc D b NR ρ s=(fun v1 v8 v9 v11 v13 v15 v17 v18 v19 v25 v26 v27 v28 v29 v30 v31 v32 v33=>(aa (ae 54 2 10 v19) fun x0=>aa (ldv s 10 x0) fun x1=>aa (rf D bL [v13,x1] s) fun x2=>aa (aw 0 x2.1) fun x3=>aa (aw 1 x2.1) fun x4=>aa (aw 2 x2.1) fun x5=>some (.normal,[(1,v1),(8,v8),(9,v9),(11,v11),(13,v13),(15,v15),(17,v17),(18,v18),(19,v19),(25,v25),(26,v26),(27,v27),(28,v28),(29,v29),(30,v30),(31,v31),(32,v32),(33,v33),(34,x3),(35,x4),(36,x5)],x2.2):OR)) (get ρ 1) (get ρ 8) (get ρ 9) (get ρ 11) (get ρ 13) (get ρ 15) (get ρ 17) (get ρ 18) (get ρ 19) (get ρ 25) (get ρ 26) (get ρ 27) (get ρ 28) (get ρ 29) (get ρ 30) (get ρ 31) (get ρ 32) (get ρ 33):=zr
@[go_sem]theorem afU:rc D b MZ ρ s=(fun v1 v8 v9 v11 v13 v15 v17 v18 v19 v25 v26 v27 v28 v29 v30 v31 v32 v33 v34 v35 v36=>(aa (ae 54 2 10 v19) fun x0=>aa (ldv s 10 x0) fun x1=>aa (rf D bA [v15,x1] s) fun x2=>aa (aw 0 x2.1) fun x3=>aa (aw 1 x2.1) fun x4=>aa (aw 2 x2.1) fun x5=>some (.normal,[(1,v1),(8,v8),(9,v9),(11,v11),(13,v13),(15,v15),(17,v17),(18,v18),(25,v25),(26,v26),(27,v27),(28,v28),(29,v29),(30,v30),(31,v31),(32,v32),(33,v33),(34,v34),(35,v35),(36,v36),(37,x3),(38,x4),(39,x5)],x2.2):OR)) (get ρ 1) (get ρ 8) (get ρ 9) (get ρ 11) (get ρ 13) (get ρ 15) (get ρ 17) (get ρ 18) (get ρ 19) (get ρ 25) (get ρ 26) (get ρ 27) (get ρ 28) (get ρ 29) (get ρ 30) (get ρ 31) (get ρ 32) (get ρ 33) (get ρ 34) (get ρ 35) (get ρ 36):=zr
@[go_sem]theorem aeJ:rc D b Ri ρ s=(fun v1 v8 v9 v11 v13 v15 v17 v18 v25 v26 v27 v28 v29 v30 v31 v32 v33 v34 v35 v36 v37 v38 v39=>(aa (rf D fF [v13,v15] s) fun x0=>some (.normal,[(1,v1),(8,v8),(9,v9),(11,v11),(13,v13),(15,v15),(17,v17),(18,v18),(25,v25),(26,v26),(27,v27),(28,v28),(29,v29),(30,v30),(31,v31),(32,v32),(33,v33),(34,v34),(35,v35),(36,v36),(37,v37),(38,v38),(39,v39),(40,x0.1)],x0.2):OR)) (get ρ 1) (get ρ 8) (get ρ 9) (get ρ 11) (get ρ 13) (get ρ 15) (get ρ 17) (get ρ 18) (get ρ 25) (get ρ 26) (get ρ 27) (get ρ 28) (get ρ 29) (get ρ 30) (get ρ 31) (get ρ 32) (get ρ 33) (get ρ 34) (get ρ 35) (get ρ 36) (get ρ 37) (get ρ 38) (get ρ 39):=zr
@[go_sem]theorem ac2:rc D b Np ρ s=(fun v1 v8 v9 v11 v13 v15 v17 v18 v25 v26 v27 v28 v29 v30 v31 v32 v33 v34 v35 v36 v37 v38 v39 v40=>(aa (vun .not v25) fun x0=>al x0 false (aa (vun .not v40) fun x1=>al x1 false (aa (ldv s 26 v26) fun x2=>aa (ldv s 26 v28) fun x3=>aa (eqv true 26 x2 x3) fun x4=>al x4 false (aa (ac .neq v27 v29) fun x5=>al x5 false (aa (ac .neq v30 v32) fun x6=>al x6 false (aa (ac .neq v31 v33) fun x7=>al x7 false (aa (ac .neq v34 v37) fun x8=>al x8 false (aa (ac .neq v35 v38) fun x9=>al x9 false (aa (ac .neq v36 v39) fun x10=>al x10 false (aa (dj D (aV b [v9]) b gV [v9] s) fun x11=>aa (ag v11) fun x12=>aa (ae 33 4 10 x12) fun x13=>aa (ldv s 10 x13) fun x14=>aa (ac .neq x11 x14) fun x15=>some (.normal,[(1,v1),(8,v8),(9,v9),(11,v11),(13,v13),(15,v15),(17,v17),(18,v18),(270,x15)],s)) (some (.normal,[(1,v1),(8,v8),(9,v9),(11,v11),(13,v13),(15,v15),(17,v17),(18,v18),(270,(.bool true))],s)) (none)) (some (.normal,[(1,v1),(8,v8),(9,v9),(11,v11),(13,v13),(15,v15),(17,v17),(18,v18),(270,(.bool true))],s)) (none)) (some (.normal,[(1,v1),(8,v8),(9,v9),(11,v11),(13,v13),(15,v15),(17,v17),(18,v18),(270,(.bool true))],s)) (none)) (some (.normal,[(1,v1),(8,v8),(9,v9),(11,v11),(13,v13),(15,v15),(17,v17),(18,v18),(270,(.bool true))],s)) (none)) (some (.normal,[(1,v1),(8,v8),(9,v9),(11,v11),(13,v13),(15,v15),(17,v17),(18,v18),(270,(.bool true))],s)) (none)) (some (.normal,[(1,v1),(8,v8),(9,v9),(11,v11),(13,v13),(15,v15),(17,v17),(18,v18),(270,(.bool true))],s)) (none)) (some (.normal,[(1,v1),(8,v8),(9,v9),(11,v11),(13,v13),(15,v15),(17,v17),(18,v18),(270,(.bool true))],s)) (none)) (some (.normal,[(1,v1),(8,v8),(9,v9),(11,v11),(13,v13),(15,v15),(17,v17),(18,v18),(270,(.bool true))],s)) (none)) (some (.normal,[(1,v1),(8,v8),(9,v9),(11,v11),(13,v13),(15,v15),(17,v17),(18,v18),(270,(.bool true))],s)) (none):OR)) (get ρ 1) (get ρ 8) (get ρ 9) (get ρ 11) (get ρ 13) (get ρ 15) (get ρ 17) (get ρ 18) (get ρ 25) (get ρ 26) (get ρ 27) (get ρ 28) (get ρ 29) (get ρ 30) (get ρ 31) (get ρ 32) (get ρ 33) (get ρ 34) (get ρ 35) (get ρ 36) (get ρ 37) (get ρ 38) (get ρ 39) (get ρ 40):=zd
@[go_sem]theorem ags:rc D b M0 ρ s= some (.normal,[(6,(.bool false))],s):=zr
@[go_sem]theorem Zk:rc D b IR ρ s=(fun v1 v8 v9 v11 v13 v15 v17 v18=>(aa (ac .add v18 (.int .i64 1)) fun x0=>some (.normal,[(1,v1),(8,v8),(9,v9),(11,v11),(13,v13),(15,v15),(17,v17),(18,x0)],s):OR)) (get ρ 1) (get ρ 8) (get ρ 9) (get ρ 11) (get ρ 13) (get ρ 15) (get ρ 17) (get ρ 18):=zr
@[go_sem]theorem aio:rc D b LL ρ s=(fun v8 v9 v11=>(some (.normal,[(8,v8),(9,v9),(11,v11),(41,(.int .i64 0))],s):OR)) (get ρ 8) (get ρ 9) (get ρ 11):=zr
@[go_sem]theorem aeW:rc D b Q7 ρ s=(fun v8 v9 v11 v41=>(aa (ac .lss v41 v8) fun x0=>some (.normal,[(8,v8),(9,v9),(11,v11),(41,v41),(273,x0)],s):OR)) (get ρ 8) (get ρ 9) (get ρ 11) (get ρ 41):=zr
@[go_sem]theorem ahT:rc D b QX ρ s=(fun v8 v9 v11 v41=>(aa (rf D cA [v9,v41] s) fun x0=>aa (aw 0 x0.1) fun x1=>aa (aw 1 x0.1) fun x2=>let x3:V:=.ptr (St.fresh x0.2 false) [] 24; let s3:St:=St.new x0.2 false (.agg 24 (List.replicate 8 (.int .u64 0))); aa (stv b s3 24 x1 x3) fun s4=>some (.normal,[(8,v8),(9,v9),(11,v11),(41,v41),(42,x3),(43,x2)],s4):OR)) (get ρ 8) (get ρ 9) (get ρ 11) (get ρ 41):=zr
@[go_sem]theorem ahD:rc D b QL ρ s=(fun v8 v9 v11 v41 v42 v43=>(aa (rf D aW [v11,v41] s) fun x0=>aa (aw 0 x0.1) fun x1=>aa (aw 1 x0.1) fun x2=>let x3:V:=.ptr (St.fresh x0.2 false) [] 24; let s3:St:=St.new x0.2 false (.agg 24 (List.replicate 8 (.int .u64 0))); aa (stv b s3 24 x1 x3) fun s4=>some (.normal,[(8,v8),(9,v9),(11,v11),(41,v41),(42,v42),(43,v43),(44,x3),(45,x2)],s4):OR)) (get ρ 8) (get ρ 9) (get ρ 11) (get ρ 41) (get ρ 42) (get ρ 43):=zr
@[go_sem]theorem afS:rc D b PN ρ s=(fun v8 v9 v11 v41 v42 v43 v44 v45=>(aa (ldv s 24 v42) fun x0=>aa (ldv s 24 v44) fun x1=>aa (eqv true 24 x0 x1) fun x2=>al x2 false (aa (ac .neq v43 v45) fun x3=>some (.normal,[(8,v8),(9,v9),(11,v11),(41,v41),(295,x3)],s)) (some (.normal,[(8,v8),(9,v9),(11,v11),(41,v41),(295,(.bool true))],s)) (none):OR)) (get ρ 8) (get ρ 9) (get ρ 11) (get ρ 41) (get ρ 42) (get ρ 43) (get ρ 44) (get ρ 45):=zr
@[go_sem]theorem Zg:rc D b PP ρ s= some (.normal,[(6,(.bool false))],s):=zr
@[go_sem]theorem ahg:rc D b Ih ρ s=(fun v8 v9 v11 v41=>(aa (ac .add v41 (.int .i64 1)) fun x0=>some (.normal,[(8,v8),(9,v9),(11,v11),(41,x0)],s):OR)) (get ρ 8) (get ρ 9) (get ρ 11) (get ρ 41):=zr
@[go_sem]theorem Ze:rc D b Q0 ρ s= some (.normal,[(6,(.bool true))],s):=zr
@[go_sem]theorem aja:rc D b Uz ρ s=(fun v0 v1=>(some (.normal,[(0,v0),(1,v1)],s):OR)) (get ρ 0) (get ρ 1):=zr
@[go_sem]theorem ajw:rc D b VM ρ s=(fun v0 v1=>(aa (ac .lss v0 (.int .i64 0)) fun x0=>some (.normal,[(0,v0),(1,v1),(6,x0)],s):OR)) (get ρ 0) (get ρ 1):=zr
@[go_sem]theorem ajd:rc D b UR ρ s=(fun v0 v1=>(aa (ac .add v0 (.int .i64 1)) fun x0=>aa (vun .neg x0) fun x1=>some (.normal,[(0,x1),(1,v1)],s):OR)) (get ρ 0) (get ρ 1):=zr
@[go_sem]theorem aju:rc D b Vl ρ s=(fun v0 v1=>(aa (ac .rem v0 v1) fun x0=>some (.normal,[(4,x0)],s):OR)) (get ρ 0) (get ρ 1):=zr
@[go_sem]theorem ajE:rc D b U8 ρ s=(fun v0=>(some (.normal,[(0,v0)],s):OR)) (get ρ 0):=zr
@[go_sem]theorem ai3:rc D b Ug ρ s=(fun v0=>(aa (ac .lss v0 (.int .i64 64)) fun x0=>al x0 false (aa (ac .gtr v0 (.int .i64 1024)) fun x1=>some (.normal,[(0,v0),(9,x1)],s)) (some (.normal,[(0,v0),(9,(.bool true))],s)) (none):OR)) (get ρ 0):=zr
@[go_sem]theorem ajC:rc D b Un ρ s= some (.normal,[(2,.nilp),(3,(.int .i64 1))],s):=zr
@[go_sem]theorem ajD:rc D b Vo ρ s=(fun v0=>(aa (qx true 57 55 (.agg 55 [(.agg 24 (List.replicate 8 (.int .u64 0))),(.agg 24 (List.replicate 8 (.int .u64 0))),.nils,(.agg 50 (List.replicate 8 (.int .i64 0)))]) s v0 v0) fun x0=>aa (am [.nils,(.bool false),(.bool false),(.int .i64 0),(.int .i64 0)] [(0,x0.1)]) fun x1=>if V.ok (.agg 59 x1) && ay true (.agg 59 x1) then let x2:V:=.ptr (St.fresh x0.2 true) [] (V.tag (.agg 59 x1)); let s2:St:=St.new x0.2 true (.agg 59 x1); some (.normal,[(2,x2),(3,(.int .i64 0))],s2) else none:OR)) (get ρ 0):=zr
@[go_sem]theorem ai7:rc D b Vj ρ s=(fun v0=>(some (.normal,[(0,v0)],s):OR)) (get ρ 0):=zr
@[go_sem]theorem ajm:rc D b Uw ρ s=(fun v0=>(aa (ac .lss v0 (.int .i64 64)) fun x0=>al x0 false (aa (ac .gtr v0 (.int .i64 1024)) fun x1=>some (.normal,[(0,v0),(9,x1)],s)) (some (.normal,[(0,v0),(9,(.bool true))],s)) (none):OR)) (get ρ 0):=zr
@[go_sem]theorem ajy:rc D b UH ρ s= some (.normal,[(2,.nilp),(3,(.int .i64 1))],s):=zr
@[go_sem]theorem ajh:rc D b Vp ρ s=(fun v0=>(aa (qx false 58 24 (.agg 24 (List.replicate 8 (.int .u64 0))) s v0 v0) fun x0=>aa (rf D gu [x0.1] x0.2) fun x1=>aa (aw 0 x1.1) fun x2=>aa (aw 1 x1.1) fun x3=>some (.normal,[(2,x2),(3,x3)],x1.2):OR)) (get ρ 0):=zr
@[go_sem]theorem ajf:rc D b Vt ρ s=(fun v0 v1 v2 v3=>(if V.ok v2 && ay false v2 then let x0:V:=.ptr (St.fresh s false) [] (V.tag v2); let s0:St:=St.new s false v2; if V.ok v3 && ay false v3 then let x1:V:=.ptr (St.fresh s0 false) [] (V.tag v3); let s1:St:=St.new s0 false v3; some (.normal,[(0,v0),(1,v1),(6,x0),(7,x1)],s1) else none else none:OR)) (get ρ 0) (get ρ 1) (get ρ 2) (get ρ 3):=zr
@[go_sem]theorem ai9:rc D b Vg ρ s=(fun v0 v1 v6 v7=>(aa (rf D ch [v0] s) fun x0=>aa (rf D iT [v1,x0.1] x0.2) fun x1=>aa (aw 0 x1.1) fun x2=>aa (aw 1 x1.1) fun x3=>some (.normal,[(0,v0),(6,v6),(7,v7),(10,x2),(11,x3)],x1.2):OR)) (get ρ 0) (get ρ 1) (get ρ 6) (get ρ 7):=zr
@[go_sem]theorem ai8:rc D b UJ ρ s=(fun v0 v6 v7 v10 v11=>(aa (ac .neq v11 (.int .i64 0)) fun x0=>some (.normal,[(0,v0),(6,v6),(7,v7),(10,v10),(11,v11),(25,x0)],s):OR)) (get ρ 0) (get ρ 6) (get ρ 7) (get ρ 10) (get ρ 11):=zr
@[go_sem]theorem ajn:rc D b UT ρ s=(fun v11=>(some (.normal,[(8,.nilp),(9,v11)],s):OR)) (get ρ 11):=zr
@[go_sem]theorem ajb:rc D b VN ρ s=(fun v0 v6 v7 v10=>(aa (ldv s 48 v6) fun x0=>aa (ldv s 48 v6) fun x1=>aa (ldv s 50 v7) fun x2=>aa (am [.nilp,.nilp,(.agg 48 (List.replicate 49 (.agg 42 [(.int .i64 0),(.int .i64 0),(.int .i64 0)]))),(.agg 48 (List.replicate 49 (.agg 42 [(.int .i64 0),(.int .i64 0),(.int .i64 0)]))),(.agg 50 (List.replicate 8 (.int .i64 0))),(.agg 48 (List.replicate 49 (.agg 42 [(.int .i64 0),(.int .i64 0),(.int .i64 0)]))),(.bool false),(.agg 82 (List.replicate 1024 (.bool false)))] [(0,v0),(1,v10),(2,x0),(3,x1),(4,x2)]) fun x3=>if V.ok (.agg 43 x3) && ay true (.agg 43 x3) then let x4:V:=.ptr (St.fresh s true) [] (V.tag (.agg 43 x3)); let s4:St:=St.new s true (.agg 43 x3); some (.normal,[(6,v6),(7,v7),(10,v10),(12,x4)],s4) else none:OR)) (get ρ 0) (get ρ 6) (get ρ 7) (get ρ 10):=zr
@[go_sem]theorem ajr:rc D b Vv ρ s=(fun v6 v7 v10 v12=>(aa (ldv s 48 v6) fun x0=>some (.normal,[(7,v7),(10,v10),(12,v12),(34,x0),(35,(.int .i64 0))],s):OR)) (get ρ 6) (get ρ 7) (get ρ 10) (get ρ 12):=zr
@[go_sem]theorem ajl:rc D b UU ρ s=(fun v7 v10 v12 v34 v35=>(aa (ac .lss v35 (.int .i64 49)) fun x0=>some (.normal,[(7,v7),(10,v10),(12,v12),(34,v34),(35,v35),(36,x0)],s):OR)) (get ρ 7) (get ρ 10) (get ρ 12) (get ρ 34) (get ρ 35):=zr
@[go_sem]theorem ajo:rc D b Vw ρ s=(fun v7 v10 v12 v34 v35=>(aa (lZ 48 49 v34 v35) fun x0=>let x1:V:=.ptr (St.fresh s false) [] 42; let s1:St:=St.new s false (.agg 42 [(.int .i64 0),(.int .i64 0),(.int .i64 0)]); aa (stv b s1 42 x0 x1) fun s2=>some (.normal,[(7,v7),(10,v10),(12,v12),(14,x1),(34,v34),(35,v35)],s2):OR)) (get ρ 7) (get ρ 10) (get ρ 12) (get ρ 34) (get ρ 35):=zr
@[go_sem]theorem ajs:rc D b VL ρ s=(fun v7 v10 v12 v14 v34 v35=>(aa (ae 42 0 10 v14) fun x0=>aa (ldv s 10 x0) fun x1=>aa (ac .neq x1 (.int .i64 0)) fun x2=>al x2 true (aa (ae 42 2 10 v14) fun x3=>aa (ldv s 10 x3) fun x4=>aa (rf D co [v10,x4] s) fun x5=>aa (ac .neq x5.1 (.int .i64 0)) fun x6=>some (.normal,[(7,v7),(10,v10),(12,v12),(34,v34),(35,v35),(47,x6)],x5.2)) (some (.normal,[(7,v7),(10,v10),(12,v12),(34,v34),(35,v35),(47,(.bool false))],s)) (none):OR)) (get ρ 7) (get ρ 10) (get ρ 12) (get ρ 14) (get ρ 34) (get ρ 35):=zr
@[go_sem]theorem ai6:rc D b Vf ρ s= some (.normal,[(8,.nilp),(9,(.int .i64 21))],s):=zr
@[go_sem]theorem ae1:rc D b MN ρ s=(fun v7 v10 v12 v34 v35=>(aa (ac .add v35 (.int .i64 1)) fun x0=>some (.normal,[(7,v7),(10,v10),(12,v12),(34,v34),(35,x0)],s):OR)) (get ρ 7) (get ρ 10) (get ρ 12) (get ρ 34) (get ρ 35):=zr
@[go_sem]theorem afw:rc D b O7 ρ s=(fun v7 v10 v12=>(aa (ldv s 50 v7) fun x0=>some (.normal,[(10,v10),(12,v12),(49,x0),(50,(.int .i64 0))],s):OR)) (get ρ 7) (get ρ 10) (get ρ 12):=zr
@[go_sem]theorem afG:rc D b N0 ρ s=(fun v10 v12 v49 v50=>(aa (ac .lss v50 (.int .i64 8)) fun x0=>some (.normal,[(10,v10),(12,v12),(49,v49),(50,v50),(51,x0)],s):OR)) (get ρ 10) (get ρ 12) (get ρ 49) (get ρ 50):=zr
@[go_sem]theorem adS:rc D b ID ρ s=(fun v10 v12 v49 v50=>(aa (lZ 50 8 v49 v50) fun x0=>some (.normal,[(10,v10),(12,v12),(16,x0),(49,v49),(50,v50)],s):OR)) (get ρ 10) (get ρ 12) (get ρ 49) (get ρ 50):=zr
@[go_sem]theorem age:rc D b Nu ρ s=(fun v10 v12 v16 v49 v50=>(aa (rf D co [v10,v16] s) fun x0=>aa (ac .neq x0.1 (.int .i64 0)) fun x1=>some (.normal,[(10,v10),(12,v12),(49,v49),(50,v50),(56,x1)],x0.2):OR)) (get ρ 10) (get ρ 12) (get ρ 16) (get ρ 49) (get ρ 50):=zr
@[go_sem]theorem aa6:rc D b QQ ρ s= some (.normal,[(8,.nilp),(9,(.int .i64 21))],s):=zr
@[go_sem]theorem ahJ:rc D b Pz ρ s=(fun v10 v12 v49 v50=>(aa (ac .add v50 (.int .i64 1)) fun x0=>some (.normal,[(10,v10),(12,v12),(49,v49),(50,x0)],s):OR)) (get ρ 10) (get ρ 12) (get ρ 49) (get ρ 50):=zr
@[go_sem]theorem Zw:rc D b HD ρ s=(fun v12=>(aa (rf D bD [v12] s) fun x0=>some (.normal,[(12,v12)],x0.2):OR)) (get ρ 12):=zr
@[go_sem]theorem aiZ:rc D b P2 ρ s=(fun v12=>(some (.normal,[(8,v12),(9,(.int .i64 0))],s):OR)) (get ρ 12):=zr
@[go_sem]theorem aje:rc D b Ve ρ s=(fun v0=>(let x0:V:=.ptr (St.fresh s false) [] 48; let s0:St:=St.new s false (.agg 48 (List.replicate 49 (.agg 42 [(.int .i64 0),(.int .i64 0),(.int .i64 0)]))); some (.normal,[(0,v0),(2,x0)],s0):OR)) (get ρ 0):=zr
@[go_sem]theorem ajA:rc D b U9 ρ s=(fun v0 v2=>(aa (am (List.replicate 49 (.agg 42 [(.int .i64 0),(.int .i64 0),(.int .i64 0)])) []) fun x0=>let x1:V:=.ptr (St.fresh s false) [] 48; let s1:St:=St.new s false (.agg 48 (List.replicate 49 (.agg 42 [(.int .i64 0),(.int .i64 0),(.int .i64 0)]))); aa (stv b s1 48 (.agg 48 x0) x1) fun s2=>some (.normal,[(0,v0),(2,v2),(3,x1)],s2):OR)) (get ρ 0) (get ρ 2):=zr
@[go_sem]theorem ajc:rc D b Uu ρ s=(fun v0 v2 v3=>(some (.normal,[(0,v0),(2,v2),(3,v3),(4,(.int .i64 0))],s):OR)) (get ρ 0) (get ρ 2) (get ρ 3):=zr
@[go_sem]theorem ajz:rc D b Vu ρ s=(fun v0 v2 v3 v4=>(aa (ac .lss v4 v0) fun x0=>al x0 true (aa (ac .lss v4 (.int .i64 49)) fun x1=>some (.normal,[(0,v0),(2,v2),(3,v3),(4,v4),(12,x1)],s)) (some (.normal,[(0,v0),(2,v2),(3,v3),(4,v4),(12,(.bool false))],s)) (none):OR)) (get ρ 0) (get ρ 2) (get ρ 3) (get ρ 4):=zr
@[go_sem]theorem ajB:rc D b Uv ρ s=(fun v0 v2 v3 v4=>(aa (ac .rem v4 (.int .i64 4)) fun x0=>aa (ac .add (.int .i64 1) x0) fun x1=>aa (ac .add (.int .i64 20) v4) fun x2=>aa (am [(.int .i64 0),(.int .i64 0),(.int .i64 0)] [(0,x1),(1,v4),(2,x2)]) fun x3=>aa (bc 48 49 42 v3 v4) fun x4=>aa (stv b s 42 (.agg 42 x3) x4) fun s5=>some (.normal,[(0,v0),(2,v2),(3,v3),(4,v4)],s5):OR)) (get ρ 0) (get ρ 2) (get ρ 3) (get ρ 4):=zr
@[go_sem]theorem ajv:rc D b UE ρ s=(fun v0 v2 v3 v4=>(aa (ac .add v4 (.int .i64 1)) fun x0=>some (.normal,[(0,v0),(2,v2),(3,v3),(4,x0)],s):OR)) (get ρ 0) (get ρ 2) (get ρ 3) (get ρ 4):=zr
@[go_sem]theorem aji:rc D b Ul ρ s=(fun v2 v3=>(aa (ldv s 48 v3) fun x0=>aa (stv b s 48 x0 v2) fun s1=>some (.normal,[(2,v2)],s1):OR)) (get ρ 2) (get ρ 3):=zr
@[go_sem]theorem aef:rc D b Ll ρ s=(fun v0 v1 v2 v3=>(if V.ok v2 && ay false v2 then let x0:V:=.ptr (St.fresh s false) [] (V.tag v2); let s0:St:=St.new s false v2; if V.ok v3 && ay false v3 then let x1:V:=.ptr (St.fresh s0 false) [] (V.tag v3); let s1:St:=St.new s0 false v3; some (.normal,[(0,v0),(1,v1),(6,x0),(7,x1)],s1) else none else none:OR)) (get ρ 0) (get ρ 1) (get ρ 2) (get ρ 3):=zr
@[go_sem]theorem abA:rc D b QC ρ s=(fun v0 v1 v6 v7=>(aa (ag v0) fun x0=>aa (ae 33 0 1 x0) fun x1=>aa (ldv s 1 x1) fun x2=>aa (V.slen false x2) fun x3=>aa (rf D ef [v1,(.int .i64 x3)] s) fun x4=>aa (aw 0 x4.1) fun x5=>aa (aw 1 x4.1) fun x6=>some (.normal,[(0,v0),(6,v6),(7,v7),(10,x5),(11,x6)],x4.2):OR)) (get ρ 0) (get ρ 1) (get ρ 6) (get ρ 7):=zr
@[go_sem]theorem aas:rc D b KB ρ s=(fun v0 v6 v7 v10 v11=>(aa (ac .neq v11 (.int .i64 0)) fun x0=>some (.normal,[(0,v0),(6,v6),(7,v7),(10,v10),(25,x0)],s):OR)) (get ρ 0) (get ρ 6) (get ρ 7) (get ρ 10) (get ρ 11):=zr
@[go_sem]theorem aeb:rc D b I9 ρ s= some (.normal,[(8,.nilp),(9,(.int .i64 1))],s):=zr
@[go_sem]theorem ad9:rc D b QJ ρ s=(fun v0 v6 v7 v10=>(aa (ldv s 48 v6) fun x0=>aa (ri D [x0] s v7 (.fn aL [])) fun x1=>aa (pD x1.2 50 8 10 none none none v7) fun x2=>aa (aA b false 38 10 x1.1 x2 x1.2) fun x3=>some (.normal,[(0,v0),(6,v6),(7,v7),(10,v10),(12,x3.1)],x3.2):OR)) (get ρ 0) (get ρ 6) (get ρ 7) (get ρ 10):=zd
@[go_sem]theorem ad6:rc D b Pn ρ s=(fun v0 v6 v7 v10 v12=>(some (.normal,[(0,v0),(6,v6),(7,v7),(10,v10),(12,v12),(13,(.int .i64 0))],s):OR)) (get ρ 0) (get ρ 6) (get ρ 7) (get ρ 10) (get ρ 12):=zr
@[go_sem]theorem aiL:rc D b PU ρ s=(fun v0 v6 v7 v10 v12 v13=>(aa (V.slen false v12) fun x0=>aa (ac .lss v13 (.int .i64 x0)) fun x1=>some (.normal,[(0,v0),(6,v6),(7,v7),(10,v10),(12,v12),(13,v13),(33,x1)],s):OR)) (get ρ 0) (get ρ 6) (get ρ 7) (get ρ 10) (get ρ 12) (get ρ 13):=zr
@[go_sem]theorem aiV:rc D b K2 ρ s=(fun v0 v6 v7 v10 v12 v13=>(aa (cl 10 v12 v13) fun x0=>aa (ldv s 10 x0) fun x1=>aa (rf D br [v10,x1] s) fun x2=>aa (ac .neq x2.1 (.int .i64 0)) fun x3=>some (.normal,[(0,v0),(6,v6),(7,v7),(10,v10),(12,v12),(13,v13),(42,x3)],x2.2):OR)) (get ρ 0) (get ρ 6) (get ρ 7) (get ρ 10) (get ρ 12) (get ρ 13):=zr
@[go_sem]theorem aeI:rc D b Lz ρ s= some (.normal,[(8,.nilp),(9,(.int .i64 21))],s):=zr
@[go_sem]theorem aeS:rc D b QM ρ s=(fun v0 v6 v7 v10 v12 v13=>(aa (ac .add v13 (.int .i64 1)) fun x0=>some (.normal,[(0,v0),(6,v6),(7,v7),(10,v10),(12,v12),(13,x0)],s):OR)) (get ρ 0) (get ρ 6) (get ρ 7) (get ρ 10) (get ρ 12) (get ρ 13):=zr
@[go_sem]theorem Yx:rc D b CC ρ s=(fun v0 v6 v7 v10=>(aa (ldv s 48 v6) fun x0=>aa (ldv s 48 v6) fun x1=>aa (ldv s 50 v7) fun x2=>aa (am [.nilp,.nilp,(.agg 48 (List.replicate 49 (.agg 42 [(.int .i64 0),(.int .i64 0),(.int .i64 0)]))),(.agg 48 (List.replicate 49 (.agg 42 [(.int .i64 0),(.int .i64 0),(.int .i64 0)]))),(.agg 50 (List.replicate 8 (.int .i64 0))),(.agg 48 (List.replicate 49 (.agg 42 [(.int .i64 0),(.int .i64 0),(.int .i64 0)]))),(.bool false)] [(0,v0),(1,v10),(2,x0),(3,x1),(4,x2)]) fun x3=>if V.ok (.agg 31 x3) && ay true (.agg 31 x3) then let x4:V:=.ptr (St.fresh s true) [] (V.tag (.agg 31 x3)); let s4:St:=St.new s true (.agg 31 x3); some (.normal,[(8,x4),(9,(.int .i64 0))],s4) else none:OR)) (get ρ 0) (get ρ 6) (get ρ 7) (get ρ 10):=zr
@[go_sem]theorem aiX:rc D b NE ρ s=(fun v0 v1=>(aa (ac .geq v1 (.int .i64 0)) fun x0=>aa (ag v0) fun x1=>aa (ae 59 2 0 x1) fun x2=>aa (stv b s 0 x0 x2) fun s3=>aa (ag v0) fun x4=>aa (ae 59 3 10 x4) fun x5=>aa (stv b s3 10 v1 x5) fun s6=>some (.normal,[],s6):OR)) (get ρ 0) (get ρ 1):=zr
@[go_sem]theorem agw:rc D b Im ρ s=(fun v0 v1=>(aa (jJ true v1 (.int .i64 (-1))) fun x0=>aa (ag v0) fun x1=>aa (ae 33 3 10 x1) fun x2=>aa (stv b s 10 x0 x2) fun s3=>some (.normal,[],s3):OR)) (get ρ 0) (get ρ 1):=zr
@[go_sem]theorem YU:rc D b NQ ρ s=(fun v0=>(some (.normal,[(0,v0)],s):OR)) (get ρ 0):=zr
@[go_sem]theorem af9:rc D b N4 ρ s=(fun v0=>(aa (ag v0) fun x0=>aa (ae 43 1 1 x0) fun x1=>aa (ldv s 1 x1) fun x2=>aa (rf D bB [x2] s) fun x3=>aa (aw 0 x3.1) fun x4=>aa (aw 1 x3.1) fun x5=>some (.normal,[(2,x4),(3,x5)],x3.2):OR)) (get ρ 0):=zr
@[go_sem]theorem abx:rc D b K6 ρ s=(fun v0=>(some (.normal,[(0,v0)],s):OR)) (get ρ 0):=zr
@[go_sem]theorem ahu:rc D b N3 ρ s=(fun v0=>(some (.normal,[(0,v0),(4,(.int .i64 0))],s):OR)) (get ρ 0):=zr
@[go_sem]theorem abS:rc D b P4 ρ s=(fun v0 v4=>(aa (ag v0) fun x0=>aa (ae 21 1 1 x0) fun x1=>aa (ldv s 1 x1) fun x2=>aa (V.slen false x2) fun x3=>aa (ac .lss v4 (.int .i64 x3)) fun x4=>some (.normal,[(0,v0),(4,v4),(11,x4)],s):OR)) (get ρ 0) (get ρ 4):=zr
@[go_sem]theorem agj:rc D b Rj ρ s=(fun v0 v4=>(aa (ag v0) fun x0=>aa (ae 21 1 1 x0) fun x1=>aa (ldv s 1 x1) fun x2=>aa (cl 10 x2 v4) fun x3=>aa (ldv s 10 x3) fun x4=>aa (ac .eql x4 (.int .i64 0)) fun x5=>some (.normal,[(0,v0),(4,v4),(21,x5)],s):OR)) (get ρ 0) (get ρ 4):=zr
@[go_sem]theorem adp:rc D b OF ρ s=(fun v0 v4=>(aa (ag v0) fun x0=>aa (ae 21 1 1 x0) fun x1=>aa (ldv s 1 x1) fun x2=>aa (cl 10 x2 v4) fun x3=>aa (stv b s 10 (.int .i64 1) x3) fun s4=>some (.normal,[(0,v0),(4,v4)],s4):OR)) (get ρ 0) (get ρ 4):=zr
@[go_sem]theorem agt:rc D b Ml ρ s=(fun v0 v4=>(aa (ag v0) fun x0=>aa (ae 21 0 10 x0) fun x1=>aa (ldv s 10 x1) fun x2=>aa (ac .add x2 v4) fun x3=>some (.normal,[(2,x3),(3,(.int .i64 0))],s):OR)) (get ρ 0) (get ρ 4):=zr
@[go_sem]theorem abr:rc D b J2 ρ s=(fun v0 v4=>(aa (ac .add v4 (.int .i64 1)) fun x0=>some (.normal,[(0,v0),(4,x0)],s):OR)) (get ρ 0) (get ρ 4):=zr
@[go_sem]theorem aaP:rc D b HC ρ s= some (.normal,[(2,(.int .i64 0)),(3,(.int .i64 10))],s):=zr
@[go_sem]theorem adi:rc D b O5 ρ s=(fun v0=>(some (.normal,[(0,v0)],s):OR)) (get ρ 0):=zr
@[go_sem]theorem acg:rc D b Pv ρ s=(fun v0=>(aa (ag v0) fun x0=>aa (ldv s 59 x0) fun x1=>let x2:V:=.ptr (St.fresh s true) [] 59; let s2:St:=St.new s true (.agg 59 [.nils,(.bool false),(.bool false),(.int .i64 0),(.int .i64 0)]); aa (stv b s2 59 x1 x2) fun s3=>some (.normal,[(0,v0),(3,x2)],s3):OR)) (get ρ 0):=zr
@[go_sem]theorem afx:rc D b Kd ρ s=(fun v0 v3=>(aa (ag v0) fun x0=>aa (ae 59 0 1 x0) fun x1=>aa (ldv s 1 x1) fun x2=>aa (rf D eJ [x2] s) fun x3=>aa (ae 59 0 1 v3) fun x4=>aa (stv b x3.2 1 x3.1 x4) fun s5=>some (.normal,[(0,v0),(3,v3)],s5):OR)) (get ρ 0) (get ρ 3):=zr
@[go_sem]theorem aeM:rc D b LB ρ s=(fun v0 v3=>(aa (ae 59 0 1 v3) fun x0=>aa (ldv s 1 x0) fun x1=>aa (V.slen false x1) fun x2=>some (.normal,[(0,v0),(3,v3),(16,(.int .i64 x2)),(17,(.int .i64 0))],s):OR)) (get ρ 0) (get ρ 3):=zr
@[go_sem]theorem agB:rc D b QF ρ s=(fun v0 v3 v16 v17=>(aa (ac .lss v17 v16) fun x0=>some (.normal,[(0,v0),(3,v3),(16,v16),(17,v17),(18,x0)],s):OR)) (get ρ 0) (get ρ 3) (get ρ 16) (get ρ 17):=zr
@[go_sem]theorem ZB:rc D b Nh ρ s=(fun v0 v3 v16 v17=>(some (.normal,[(0,v0),(3,v3),(4,v17),(16,v16),(17,v17)],s):OR)) (get ρ 0) (get ρ 3) (get ρ 16) (get ρ 17):=zr
@[go_sem]theorem afr:rc D b Ic ρ s=(fun v0 v3 v4 v16 v17=>(aa (ae 59 0 1 v3) fun x0=>aa (ldv s 1 x0) fun x1=>aa (ag v0) fun x2=>aa (ae 59 0 1 x2) fun x3=>aa (ldv s 1 x3) fun x4=>aa (cl 55 x4 v4) fun x5=>aa (ae 55 2 1 x5) fun x6=>aa (ldv s 1 x6) fun x7=>aa (kX D true (aV b [x7]) b ec [x7] s) fun x8=>aa (cl 55 x1 v4) fun x9=>aa (ae 55 2 1 x9) fun x10=>aa (stv b x8.2 1 x8.1 x10) fun s11=>some (.normal,[(0,v0),(3,v3),(16,v16),(17,v17)],s11):OR)) (get ρ 0) (get ρ 3) (get ρ 4) (get ρ 16) (get ρ 17):=zd
@[go_sem]theorem aeZ:rc D b J3 ρ s=(fun v0 v3 v16 v17=>(aa (ac .add v17 (.int .i64 1)) fun x0=>some (.normal,[(0,v0),(3,v3),(16,v16),(17,x0)],s):OR)) (get ρ 0) (get ρ 3) (get ρ 16) (get ρ 17):=zr
@[go_sem]theorem aiG:rc D b PE ρ s=(fun v3=>(some (.normal,[(2,v3)],s):OR)) (get ρ 3):=zr
@[go_sem]theorem aa7:rc D b K3 ρ s=(fun v0 v1=>(some (.normal,[(0,v0),(1,v1)],s):OR)) (get ρ 0) (get ρ 1):=zr
@[go_sem]theorem aax:rc D b Lt ρ s=(fun v0 v1=>(aa (ag v0) fun x0=>aa (ldv s 43 x0) fun x1=>let x2:V:=.ptr (St.fresh s true) [] 43; let s2:St:=St.new s true (.agg 43 [.nilp,.nilp,(.agg 48 (List.replicate 49 (.agg 42 [(.int .i64 0),(.int .i64 0),(.int .i64 0)]))),(.agg 48 (List.replicate 49 (.agg 42 [(.int .i64 0),(.int .i64 0),(.int .i64 0)]))),(.agg 50 (List.replicate 8 (.int .i64 0))),(.agg 48 (List.replicate 49 (.agg 42 [(.int .i64 0),(.int .i64 0),(.int .i64 0)]))),(.bool false),(.agg 82 (List.replicate 1024 (.bool false)))]); aa (stv b s2 43 x1 x2) fun s3=>some (.normal,[(0,v0),(1,v1),(5,x2)],s3):OR)) (get ρ 0) (get ρ 1):=zr
@[go_sem]theorem YS:rc D b Qn ρ s=(fun v0 v1 v5=>(aa (ag v0) fun x0=>aa (ae 43 1 1 x0) fun x1=>aa (ldv s 1 x1) fun x2=>aa (rf D dU [x2] s) fun x3=>aa (ae 43 0 1 v5) fun x4=>aa (stv b x3.2 1 v1 x4) fun s5=>aa (ae 43 1 1 v5) fun x6=>aa (stv b s5 1 x3.1 x6) fun s7=>some (.normal,[(5,v5)],s7):OR)) (get ρ 0) (get ρ 1) (get ρ 5):=zr
@[go_sem]theorem aaR:rc D b M6 ρ s=(fun v5=>(some (.normal,[(4,v5)],s):OR)) (get ρ 5):=zr
@[go_sem]theorem ahs:rc D b R0 ρ s=(fun v0 v1=>(some (.normal,[(0,v0),(1,v1)],s):OR)) (get ρ 0) (get ρ 1):=zr
@[go_sem]theorem ad0:rc D b Jz ρ s=(fun v0 v1=>(aa (rf D bL [v0,v1] s) fun x0=>aa (aw 0 x0.1) fun x1=>aa (aw 1 x0.1) fun x2=>aa (aw 2 x0.1) fun x3=>some (.normal,[(0,v0),(1,v1),(6,x1),(7,x2),(8,x3)],x0.2):OR)) (get ρ 0) (get ρ 1):=zr
@[go_sem]theorem ac3:rc D b RU ρ s=(fun v0 v1 v6 v7 v8=>(aa (ac .neq v8 (.int .i64 0)) fun x0=>some (.normal,[(0,v0),(1,v1),(6,v6),(7,v7),(8,v8),(18,x0)],s):OR)) (get ρ 0) (get ρ 1) (get ρ 6) (get ρ 7) (get ρ 8):=zr
@[go_sem]theorem aiF:rc D b Kc ρ s=(fun v8=>(some (.normal,[(4,(.int .i64 0)),(5,v8)],s):OR)) (get ρ 8):=zr
@[go_sem]theorem afn:rc D b Ky ρ s=(fun v0 v1 v6 v7=>(aa (am (List.replicate 8 (.int .u64 0)) []) fun x0=>aa (rf D dB [v0,(.agg 24 x0)] s) fun x1=>aa (aw 0 x1.1) fun x2=>aa (aw 1 x1.1) fun x3=>some (.normal,[(0,v0),(1,v1),(6,v6),(7,v7),(8,x3),(9,x2)],x1.2):OR)) (get ρ 0) (get ρ 1) (get ρ 6) (get ρ 7):=zr
@[go_sem]theorem agk:rc D b P5 ρ s=(fun v0 v1 v6 v7 v8 v9=>(aa (ac .neq v8 (.int .i64 0)) fun x0=>some (.normal,[(0,v0),(1,v1),(6,v6),(7,v7),(8,v8),(9,v9),(27,x0)],s):OR)) (get ρ 0) (get ρ 1) (get ρ 6) (get ρ 7) (get ρ 8) (get ρ 9):=zr
@[go_sem]theorem ahY:rc D b O1 ρ s=(fun v8=>(some (.normal,[(4,(.int .i64 0)),(5,v8)],s):OR)) (get ρ 8):=zr
@[go_sem]theorem ahm:rc D b KI ρ s=(fun v0 v1 v6 v7 v9=>(aa (am [(.int .i64 0),(.int .i64 0),(.int .i64 0)] [(0,v1),(1,v7),(2,v9)]) fun x0=>aa (ag v0) fun x1=>aa (ae 43 2 48 x1) fun x2=>aa (bc 48 49 42 x2 v6) fun x3=>aa (stv b s 42 (.agg 42 x0) x3) fun s4=>some (.normal,[(6,v6)],s4):OR)) (get ρ 0) (get ρ 1) (get ρ 6) (get ρ 7) (get ρ 9):=zr
@[go_sem]theorem aal:rc D b OM ρ s=(fun v6=>(some (.normal,[(4,v6),(5,(.int .i64 0))],s):OR)) (get ρ 6):=zr
@[go_sem]theorem aco:rc D b Qz ρ s=(fun v0 v1 v2 v3=>(some (.normal,[(0,v0),(1,v1),(2,v2),(3,v3)],s):OR)) (get ρ 0) (get ρ 1) (get ρ 2) (get ρ 3):=zr
@[go_sem]theorem acj:rc D b Oh ρ s=(fun v0 v1 v2 v3=>(aa (rf D bf [v0,v1] s) fun x0=>some (.normal,[(0,v0),(1,v1),(2,v2),(3,v3),(9,x0.1)],x0.2):OR)) (get ρ 0) (get ρ 1) (get ρ 2) (get ρ 3):=zr
@[go_sem]theorem ahZ:rc D b M8 ρ s=(fun v0 v1 v2 v3 v9=>(aa (ac .eql v9 (.int .i64 1)) fun x0=>some (.normal,[(0,v0),(1,v1),(2,v2),(3,v3),(9,v9),(15,x0)],s):OR)) (get ρ 0) (get ρ 1) (get ρ 2) (get ρ 3) (get ρ 9):=zr
@[go_sem]theorem agM:rc D b NJ ρ s=(fun v0 v1 v2 v3 v9=>(aa (ac .lss v2 (.int .i64 0)) fun x0=>some (.normal,[(0,v0),(1,v1),(2,v2),(3,v3),(9,v9),(15,x0)],s):OR)) (get ρ 0) (get ρ 1) (get ρ 2) (get ρ 3) (get ρ 9):=zr
@[go_sem]theorem agC:rc D b NZ ρ s=(fun v0 v1 v2 v3 v9=>(aa (ac .geq v2 (.int .i64 8)) fun x0=>some (.normal,[(0,v0),(1,v1),(2,v2),(3,v3),(9,v9),(15,x0)],s):OR)) (get ρ 0) (get ρ 1) (get ρ 2) (get ρ 3) (get ρ 9):=zr
@[go_sem]theorem acC:rc D b Lv ρ s= some (.normal,[(8,(.int .i64 1))],s):=zr
@[go_sem]theorem ack:rc D b OU ρ s=(fun v0 v1 v2 v3 v9=>(aa (ac .neq v9 (.int .i64 0)) fun x0=>some (.normal,[(0,v0),(1,v1),(2,v2),(3,v3),(9,v9),(22,x0)],s):OR)) (get ρ 0) (get ρ 1) (get ρ 2) (get ρ 3) (get ρ 9):=zr
@[go_sem]theorem ais:rc D b Nn ρ s=(fun v9=>(some (.normal,[(8,v9)],s):OR)) (get ρ 9):=zr
@[go_sem]theorem agd:rc D b KY ρ s=(fun v0 v1 v2 v3=>(aa (rf D bw [v0,v1] s) fun x0=>some (.normal,[(0,v0),(1,v1),(2,v2),(3,v3),(26,x0.1)],x0.2):OR)) (get ρ 0) (get ρ 1) (get ρ 2) (get ρ 3):=zr
@[go_sem]theorem afe:rc D b Lo ρ s=(fun v0 v1 v2 v3=>(aa (ag v0) fun x0=>aa (ae 43 0 1 x0) fun x1=>aa (ldv s 1 x1) fun x2=>aa (ag v0) fun x3=>aa (ae 43 2 48 x3) fun x4=>aa (bc 48 49 42 x4 v1) fun x5=>aa (ae 42 2 10 x5) fun x6=>aa (ldv s 10 x6) fun x7=>aa (rf D dV [x2,x7,v2,v3] s) fun x8=>some (.normal,[(8,x8.1)],x8.2):OR)) (get ρ 0) (get ρ 1) (get ρ 2) (get ρ 3):=zd
@[go_sem]theorem XY:rc D b Dr ρ s=(fun v0 v1 v2 v3=>(aa (ag v0) fun x0=>aa (ae 43 1 1 x0) fun x1=>aa (ldv s 1 x1) fun x2=>aa (rf D bp [x2] s) fun x3=>aa (ac .eql x3.1 (.int .i64 0)) fun x4=>some (.normal,[(0,v0),(1,v1),(2,v2),(3,v3),(44,x4)],x3.2):OR)) (get ρ 0) (get ρ 1) (get ρ 2) (get ρ 3):=zr
@[go_sem]theorem Yd:rc D b EP ρ s= some (.normal,[(8,(.int .i64 10))],s):=zr
@[go_sem]theorem XK:rc D b DT ρ s=(fun v0 v1 v2 v3=>(aa (ag v0) fun x0=>aa (ae 43 0 1 x0) fun x1=>aa (ldv s 1 x1) fun x2=>aa (ag v0) fun x3=>aa (ae 43 2 48 x3) fun x4=>aa (bc 48 49 42 x4 v1) fun x5=>aa (ae 42 2 10 x5) fun x6=>aa (ldv s 10 x6) fun x7=>aa (dj D (aV b [x2,x7]) b cA [x2,x7] s) fun x8=>aa (aw 0 x8) fun x9=>aa (aw 1 x8) fun x10=>let x11:V:=.ptr (St.fresh s false) [] 24; let s11:St:=St.new s false (.agg 24 (List.replicate 8 (.int .u64 0))); aa (stv b s11 24 x9 x11) fun s12=>some (.normal,[(0,v0),(1,v1),(2,v2),(3,v3),(9,x10),(10,x11)],s12):OR)) (get ρ 0) (get ρ 1) (get ρ 2) (get ρ 3):=zd
@[go_sem]theorem XW:rc D b E3 ρ s=(fun v0 v1 v2 v3 v9 v10=>(aa (ac .neq v9 (.int .i64 0)) fun x0=>some (.normal,[(0,v0),(1,v1),(2,v2),(3,v3),(9,v9),(10,v10),(67,x0)],s):OR)) (get ρ 0) (get ρ 1) (get ρ 2) (get ρ 3) (get ρ 9) (get ρ 10):=zr
@[go_sem]theorem Xq:rc D b Dz ρ s=(fun v9=>(some (.normal,[(8,v9)],s):OR)) (get ρ 9):=zr
@[go_sem]theorem YP:rc D b CE ρ s=(fun v0 v1 v2 v3 v10=>(aa (bc 24 8 18 v10 v2) fun x0=>aa (stv b s 18 v3 x0) fun s1=>some (.normal,[(0,v0),(1,v1),(10,v10)],s1):OR)) (get ρ 0) (get ρ 1) (get ρ 2) (get ρ 3) (get ρ 10):=zr
@[go_sem]theorem Yh:rc D b Cp ρ s=(fun v0 v1 v10=>(aa (ldv s 24 v10) fun x0=>aa (rf D dB [v0,x0] s) fun x1=>aa (aw 0 x1.1) fun x2=>aa (aw 1 x1.1) fun x3=>some (.normal,[(0,v0),(1,v1),(9,x3),(11,x2)],x1.2):OR)) (get ρ 0) (get ρ 1) (get ρ 10):=zr
@[go_sem]theorem XE:rc D b D3 ρ s=(fun v0 v1 v9 v11=>(aa (ac .neq v9 (.int .i64 0)) fun x0=>some (.normal,[(0,v0),(1,v1),(9,v9),(11,v11),(79,x0)],s):OR)) (get ρ 0) (get ρ 1) (get ρ 9) (get ρ 11):=zr
@[go_sem]theorem XD:rc D b Eu ρ s=(fun v9=>(some (.normal,[(8,v9)],s):OR)) (get ρ 9):=zr
@[go_sem]theorem YE:rc D b Dp ρ s=(fun v0 v1 v11=>(aa (ag v0) fun x0=>aa (ae 43 2 48 x0) fun x1=>aa (bc 48 49 42 x1 v1) fun x2=>aa (ae 42 2 10 x2) fun x3=>aa (stv b s 10 v11 x3) fun s4=>some (.normal,[],s4):OR)) (get ρ 0) (get ρ 1) (get ρ 11):=zr
@[go_sem]theorem Ys:rc D b CQ ρ s= some (.normal,[(8,(.int .i64 0))],s):=zr
@[go_sem]theorem ab4:rc D b Lb ρ s=(fun v0=>(some (.normal,[(0,v0)],s):OR)) (get ρ 0):=zr
@[go_sem]theorem aaj:rc D b LK ρ s=(fun v0=>(aa (ag v0) fun x0=>aa (ae 43 6 0 x0) fun x1=>aa (ldv s 0 x1) fun x2=>some (.normal,[(0,v0),(6,x2)],s):OR)) (get ρ 0):=zr
@[go_sem]theorem ahC:rc D b Hx ρ s= some (.normal,[(2,(.int .i64 3))],s):=zr
@[go_sem]theorem adZ:rc D b OQ ρ s=(fun v0=>(aa (ag v0) fun x0=>aa (ae 43 2 48 x0) fun x1=>aa (ldv s 48 x1) fun x2=>aa (ag v0) fun x3=>aa (ae 43 5 48 x3) fun x4=>aa (stv b s 48 x2 x4) fun s5=>aa (ag v0) fun x6=>aa (ae 43 6 0 x6) fun x7=>aa (stv b s5 0 (.bool true) x7) fun s8=>some (.normal,[(0,v0)],s8):OR)) (get ρ 0):=zr
@[go_sem]theorem afL:rc D b Ln ρ s=(fun v0=>(aa (rf D bD [v0] s) fun x0=>some (.normal,[],x0.2):OR)) (get ρ 0):=zr
@[go_sem]theorem abI:rc D b Kz ρ s= some (.normal,[(2,(.int .i64 0))],s):=zr
@[go_sem]theorem adz:rc D b QW ρ s=(fun v0 v1 v2 v3=>(if V.ok v2 && ay false v2 then let x0:V:=.ptr (St.fresh s false) [] (V.tag v2); let s0:St:=St.new s false v2; some (.normal,[(0,v0),(1,v1),(3,v3),(6,x0)],s0) else none:OR)) (get ρ 0) (get ρ 1) (get ρ 2) (get ρ 3):=zr
@[go_sem]theorem afu:rc D b IE ρ s=(fun v0 v1 v3 v6=>(aa (rf D bq [] s) fun x0=>let x1:V:=.ptr (St.fresh x0.2 false) [] 50; let s1:St:=St.new x0.2 false (.agg 50 (List.replicate 8 (.int .i64 0))); aa (stv b s1 50 x0.1 x1) fun s2=>some (.normal,[(0,v0),(1,v1),(3,v3),(6,v6),(9,x1)],s2):OR)) (get ρ 0) (get ρ 1) (get ρ 3) (get ρ 6):=zr
@[go_sem]theorem aez:rc D b KC ρ s=(fun v0 v1 v3 v6 v9=>(some (.normal,[(0,v0),(1,v1),(3,v3),(6,v6),(9,v9),(10,(.int .i64 0))],s):OR)) (get ρ 0) (get ρ 1) (get ρ 3) (get ρ 6) (get ρ 9):=zr
@[go_sem]theorem ahq:rc D b Oz ρ s=(fun v0 v1 v3 v6 v9 v10=>(aa (ac .lss v10 (.int .i64 8)) fun x0=>some (.normal,[(0,v0),(1,v1),(3,v3),(6,v6),(9,v9),(10,v10),(18,x0)],s):OR)) (get ρ 0) (get ρ 1) (get ρ 3) (get ρ 6) (get ρ 9) (get ρ 10):=zr
@[go_sem]theorem aex:rc D b PI ρ s=(fun v0 v1 v3 v6 v9 v10=>(aa (ae 54 1 10 v6) fun x0=>aa (ldv s 10 x0) fun x1=>aa (rf D aC [x1,(.int .i64 60)] s) fun x2=>aa (ac .add x2.1 v10) fun x3=>aa (bc 50 8 10 v9 v10) fun x4=>aa (stv b x2.2 10 x3 x4) fun s5=>some (.normal,[(0,v0),(1,v1),(3,v3),(6,v6),(9,v9),(10,v10)],s5):OR)) (get ρ 0) (get ρ 1) (get ρ 3) (get ρ 6) (get ρ 9) (get ρ 10):=zr
@[go_sem]theorem aac:rc D b NH ρ s=(fun v0 v1 v3 v6 v9 v10=>(aa (V.slen false v3) fun x0=>aa (ac .geq (.int .i64 x0) (.int .i64 8)) fun x1=>some (.normal,[(0,v0),(1,v1),(3,v3),(6,v6),(9,v9),(10,v10),(30,x1)],s):OR)) (get ρ 0) (get ρ 1) (get ρ 3) (get ρ 6) (get ρ 9) (get ρ 10):=zr
@[go_sem]theorem ahx:rc D b It ρ s=(fun v0 v1 v3 v6 v9 v10=>(aa (V.slen false v3) fun x0=>aa (ac .sub (.int .i64 x0) (.int .i64 8)) fun x1=>aa (ac .add x1 v10) fun x2=>aa (cl 10 v3 x2) fun x3=>aa (ldv s 10 x3) fun x4=>aa (bc 50 8 10 v9 v10) fun x5=>aa (stv b s 10 x4 x5) fun s6=>some (.normal,[(0,v0),(1,v1),(3,v3),(6,v6),(9,v9),(10,v10)],s6):OR)) (get ρ 0) (get ρ 1) (get ρ 3) (get ρ 6) (get ρ 9) (get ρ 10):=zr
@[go_sem]theorem abX:rc D b Ly ρ s=(fun v0 v1 v3 v6 v9 v10=>(aa (ac .add v10 (.int .i64 1)) fun x0=>some (.normal,[(0,v0),(1,v1),(3,v3),(6,v6),(9,v9),(10,x0)],s):OR)) (get ρ 0) (get ρ 1) (get ρ 3) (get ρ 6) (get ρ 9) (get ρ 10):=zr
@[go_sem]theorem acw:rc D b Kh ρ s=(fun v0 v1 v6 v9=>(aa (ae 54 0 10 v6) fun x0=>aa (ldv s 10 x0) fun x1=>aa (rf D aC [x1,(.int .i64 12)] s) fun x2=>some (.normal,[(0,v0),(1,v1),(6,v6),(9,v9),(43,x2.1)],x2.2):OR)) (get ρ 0) (get ρ 1) (get ρ 6) (get ρ 9):=zr
@[go_sem]theorem agl:rc D b ND ρ s=(fun v0 v1 v6 v9 v43=>(aa (ac .eql v43 (.int .i64 0)) fun x0=>some (.normal,[(0,v0),(1,v1),(6,v6),(9,v9),(43,v43),(44,x0)],s):OR)) (get ρ 0) (get ρ 1) (get ρ 6) (get ρ 9) (get ρ 43):=zr
@[go_sem]theorem Yw:rc D b CG ρ s=(fun v0 v1 v6 v9 v43=>(aa (ac .eql v43 (.int .i64 1)) fun x0=>some (.normal,[(0,v0),(1,v1),(6,v6),(9,v9),(43,v43),(44,x0)],s):OR)) (get ρ 0) (get ρ 1) (get ρ 6) (get ρ 9) (get ρ 43):=zr
@[go_sem]theorem YG:rc D b Ch ρ s=(fun v0 v1 v6 v9 v43=>(aa (ac .eql v43 (.int .i64 2)) fun x0=>some (.normal,[(0,v0),(1,v1),(6,v6),(9,v9),(43,v43),(44,x0)],s):OR)) (get ρ 0) (get ρ 1) (get ρ 6) (get ρ 9) (get ρ 43):=zr
@[go_sem]theorem YB:rc D b EE ρ s=(fun v0 v1 v6 v9 v43=>(aa (ac .eql v43 (.int .i64 3)) fun x0=>some (.normal,[(0,v0),(1,v1),(6,v6),(9,v9),(43,v43),(44,x0)],s):OR)) (get ρ 0) (get ρ 1) (get ρ 6) (get ρ 9) (get ρ 43):=zr
@[go_sem]theorem Ya:rc D b Ej ρ s=(fun v0 v1 v6=>(aa (ae 54 1 10 v6) fun x0=>aa (ldv s 10 x0) fun x1=>aa (ae 54 2 10 v6) fun x2=>aa (ldv s 10 x2) fun x3=>aa (ae 54 3 18 v6) fun x4=>aa (ldv s 18 x4) fun x5=>aa (kX D false (aV b [v0,x1,x3,x5]) b bU [v0,x1,x3,x5] s) fun x6=>aa (ae 54 1 10 v6) fun x7=>aa (qe x6.2 10 x7) fun x8=>aa (ae 54 2 10 v6) fun x9=>aa (qe x6.2 10 x9) fun x10=>aa (ae 54 3 18 v6) fun x11=>aa (qe x6.2 18 x11) fun x12=>aa (rf D dK [v1,x8,x10,x12] x6.2) fun x13=>aa (ac .eql x6.1 x13.1) fun x14=>some (.normal,[(8,x14)],x13.2):OR)) (get ρ 0) (get ρ 1) (get ρ 6):=zd
@[go_sem]theorem Yy:rc D b EV ρ s=(fun v0 v1 v6 v9 v43=>(aa (ac .eql v43 (.int .i64 4)) fun x0=>some (.normal,[(0,v0),(1,v1),(6,v6),(9,v9),(43,v43),(66,x0)],s):OR)) (get ρ 0) (get ρ 1) (get ρ 6) (get ρ 9) (get ρ 43):=zr
@[go_sem]theorem XI:rc D b Dk ρ s=(fun v0 v1 v6=>(aa (ae 54 2 10 v6) fun x0=>aa (ldv s 10 x0) fun x1=>aa (rf D cn [v0,x1] s) fun x2=>aa (aw 0 x2.1) fun x3=>aa (aw 1 x2.1) fun x4=>some (.normal,[(1,v1),(6,v6),(11,x3),(12,x4)],x2.2):OR)) (get ρ 0) (get ρ 1) (get ρ 6):=zr
@[go_sem]theorem XH:rc D b Cv ρ s=(fun v1 v6 v11 v12=>(aa (ae 54 2 10 v6) fun x0=>aa (ldv s 10 x0) fun x1=>aa (rf D dq [v1,x1] s) fun x2=>aa (aw 0 x2.1) fun x3=>aa (aw 1 x2.1) fun x4=>some (.normal,[(11,v11),(12,v12),(13,x3),(14,x4)],x2.2):OR)) (get ρ 1) (get ρ 6) (get ρ 11) (get ρ 12):=zr
@[go_sem]theorem XN:rc D b DX ρ s=(fun v11 v12 v13 v14=>(aa (ac .eql v11 v13) fun x0=>al x0 true (aa (ac .eql v12 v14) fun x1=>some (.normal,[(8,x1)],s)) (some (.normal,[(8,(.bool false))],s)) (none):OR)) (get ρ 11) (get ρ 12) (get ρ 13) (get ρ 14):=zr
@[go_sem]theorem YN:rc D b DC ρ s=(fun v0 v1 v6 v9 v43=>(aa (ac .eql v43 (.int .i64 5)) fun x0=>some (.normal,[(0,v0),(1,v1),(6,v6),(9,v9),(43,v43),(90,x0)],s):OR)) (get ρ 0) (get ρ 1) (get ρ 6) (get ρ 9) (get ρ 43):=zr
@[go_sem]theorem Yz:rc D b CU ρ s=(fun v0 v1 v6=>(aa (ae 54 1 10 v6) fun x0=>aa (ldv s 10 x0) fun x1=>aa (kX D false (aV b [v0,x1]) b gt [v0,x1] s) fun x2=>aa (ae 54 1 10 v6) fun x3=>aa (qe x2.2 10 x3) fun x4=>aa (rf D dN [v1,x4] x2.2) fun x5=>aa (ac .eql x2.1 x5.1) fun x6=>some (.normal,[(8,x6)],x5.2):OR)) (get ρ 0) (get ρ 1) (get ρ 6):=zd
@[go_sem]theorem XR:rc D b Fb ρ s=(fun v0 v1 v6 v9 v43=>(aa (ac .eql v43 (.int .i64 6)) fun x0=>some (.normal,[(0,v0),(1,v1),(6,v6),(9,v9),(43,v43),(101,x0)],s):OR)) (get ρ 0) (get ρ 1) (get ρ 6) (get ρ 9) (get ρ 43):=zr
@[go_sem]theorem Yv:rc D b C9 ρ s=(fun v0 v1=>(aa (rf D da [v0] s) fun x0=>aa (rf D dv [v1] x0.2) fun x1=>aa (ac .eql x0.1 x1.1) fun x2=>some (.normal,[(8,x2)],x1.2):OR)) (get ρ 0) (get ρ 1):=zr
@[go_sem]theorem Yo:rc D b Ca ρ s=(fun v0 v1 v6 v9 v43=>(aa (ac .eql v43 (.int .i64 8)) fun x0=>some (.normal,[(0,v0),(1,v1),(6,v6),(9,v9),(43,v43),(108,x0)],s):OR)) (get ρ 0) (get ρ 1) (get ρ 6) (get ρ 9) (get ρ 43):=zr
@[go_sem]theorem YL:rc D b EO ρ s=(fun v0 v1 v9=>(aa (ldv s 50 v9) fun x0=>aa (kX D false (aV b [v0,x0]) b eY [v0,x0] s) fun x1=>aa (qe x1.2 50 v9) fun x2=>aa (rf D cJ [v1,x2] x1.2) fun x3=>aa (ac .eql x1.1 x3.1) fun x4=>some (.normal,[(8,x4)],x3.2):OR)) (get ρ 0) (get ρ 1) (get ρ 9):=zd
@[go_sem]theorem XA:rc D b Dj ρ s=(fun v0 v1 v6 v43=>(aa (ac .eql v43 (.int .i64 9)) fun x0=>some (.normal,[(0,v0),(1,v1),(6,v6),(43,v43),(117,x0)],s):OR)) (get ρ 0) (get ρ 1) (get ρ 6) (get ρ 43):=zr
@[go_sem]theorem XZ:rc D b Da ρ s=(fun v0 v1=>(aa (rf D fM [v0] s) fun x0=>aa (rf D cZ [v1] x0.2) fun x1=>aa (ac .eql x0.1 x1.1) fun x2=>some (.normal,[(8,x2)],x1.2):OR)) (get ρ 0) (get ρ 1):=zr
@[go_sem]theorem Xp:rc D b Em ρ s=(fun v0 v1 v6 v43=>(aa (ac .eql v43 (.int .i64 10)) fun x0=>some (.normal,[(0,v0),(1,v1),(6,v6),(124,x0)],s):OR)) (get ρ 0) (get ρ 1) (get ρ 6) (get ρ 43):=zr
@[go_sem]theorem Yj:rc D b EA ρ s=(fun v0 v1 v6=>(aa (ae 54 3 18 v6) fun x0=>aa (ldv s 18 x0) fun x1=>aa (ac .rem x1 (.int .u64 100)) fun x2=>aa (eW .i64 x2) fun x3=>some (.normal,[(0,v0),(1,v1),(6,v6),(15,x3)],s):OR)) (get ρ 0) (get ρ 1) (get ρ 6):=zr
@[go_sem]theorem YI:rc D b CM ρ s=(fun v0 v1 v6 v15=>(aa (ae 54 1 10 v6) fun x0=>aa (ldv s 10 x0) fun x1=>aa (ae 54 2 10 v6) fun x2=>aa (ldv s 10 x2) fun x3=>aa (ae 54 1 10 v6) fun x4=>aa (ldv s 10 x4) fun x5=>aa (kn true 38 10 3 (.int .i64 0) s [(0,x1),(1,x3),(2,x5)]) fun x6=>aa (dj D (aV b [v0,x6.1,v15]) b cY [v0,x6.1,v15] x6.2) fun x7=>aa (ae 54 1 10 v6) fun x8=>aa (ldv x6.2 10 x8) fun x9=>aa (ae 54 2 10 v6) fun x10=>aa (ldv x6.2 10 x10) fun x11=>aa (ae 54 1 10 v6) fun x12=>aa (ldv x6.2 10 x12) fun x13=>aa (kn false 38 10 3 (.int .i64 0) x6.2 [(0,x9),(1,x11),(2,x13)]) fun x14=>aa (rf D bE [v1,x14.1,v15] x14.2) fun x15=>aa (eqv false 0 x7 x15.1) fun x16=>al x16 true (aa (dj D (aV b [v0,.nils,(.int .i64 (-1))]) b cY [v0,.nils,(.int .i64 (-1))] x15.2) fun x17=>aa (rf D bE [v1,.nils,(.int .i64 (-1))] x15.2) fun x18=>aa (eqv false 0 x17 x18.1) fun x19=>some (.normal,[(8,x19)],x18.2)) (some (.normal,[(8,(.bool false))],x15.2)) (none):OR)) (get ρ 0) (get ρ 1) (get ρ 6) (get ρ 15):=zd
@[go_sem]theorem Xs:rc D b EI ρ s= some (.normal,[(8,(.bool true))],s):=zr
@[go_sem]theorem acm:rc D b Qr ρ s=(fun v0 v1=>(let x0:V:=.ptr (St.fresh s false) [] 26; let s0:St:=St.new s false (.agg 26 [(.int .i64 0),(.int .i64 0),(.agg 24 (List.replicate 8 (.int .u64 0)))]); some (.normal,[(0,v0),(1,v1),(4,x0)],s0):OR)) (get ρ 0) (get ρ 1):=zr
@[go_sem]theorem acO:rc D b PX ρ s=(fun v0 v1 v4=>(aa (rf D bf [v0,v1] s) fun x0=>some (.normal,[(0,v0),(1,v1),(4,v4),(6,x0.1)],x0.2):OR)) (get ρ 0) (get ρ 1) (get ρ 4):=zr
@[go_sem]theorem acQ:rc D b Jf ρ s=(fun v0 v1 v4 v6=>(aa (ac .neq v6 (.int .i64 0)) fun x0=>some (.normal,[(0,v0),(1,v1),(4,v4),(6,v6),(14,x0)],s):OR)) (get ρ 0) (get ρ 1) (get ρ 4) (get ρ 6):=zr
@[go_sem]theorem ahE:rc D b Oc ρ s=(fun v4 v6=>(aa (am [(.int .i64 0),(.int .i64 0),(.agg 24 (List.replicate 8 (.int .u64 0)))] []) fun x0=>aa (stv b s 26 (.agg 26 x0) v4) fun s1=>some (.normal,[(4,v4),(5,v6)],s1):OR)) (get ρ 4) (get ρ 6):=zr
@[go_sem]theorem aff:rc D b Qg ρ s=(fun v0 v1 v4=>(aa (ag v0) fun x0=>aa (ae 43 2 48 x0) fun x1=>aa (bc 48 49 42 x1 v1) fun x2=>aa (ldv s 42 x2) fun x3=>let x4:V:=.ptr (St.fresh s false) [] 42; let s4:St:=St.new s false (.agg 42 [(.int .i64 0),(.int .i64 0),(.int .i64 0)]); aa (stv b s4 42 x3 x4) fun s5=>some (.normal,[(0,v0),(4,v4),(7,x4)],s5):OR)) (get ρ 0) (get ρ 1) (get ρ 4):=zr
@[go_sem]theorem ae6:rc D b M5 ρ s=(fun v0 v4 v7=>(aa (ag v0) fun x0=>aa (ae 43 0 1 x0) fun x1=>aa (ldv s 1 x1) fun x2=>aa (ae 42 2 10 v7) fun x3=>aa (ldv s 10 x3) fun x4=>aa (dj D (aV b [x2,x4]) b cA [x2,x4] s) fun x5=>aa (aw 0 x5) fun x6=>aa (aw 1 x5) fun x7=>let x8:V:=.ptr (St.fresh s false) [] 24; let s8:St:=St.new s false (.agg 24 (List.replicate 8 (.int .u64 0))); aa (stv b s8 24 x6 x8) fun s9=>some (.normal,[(4,v4),(7,v7),(8,x8),(9,x7)],s9):OR)) (get ρ 0) (get ρ 4) (get ρ 7):=zd
@[go_sem]theorem agm:rc D b Ju ρ s=(fun v4 v7 v8 v9=>(aa (ac .neq v9 (.int .i64 0)) fun x0=>some (.normal,[(4,v4),(7,v7),(8,v8),(9,v9),(34,x0)],s):OR)) (get ρ 4) (get ρ 7) (get ρ 8) (get ρ 9):=zr
@[go_sem]theorem ac9:rc D b JC ρ s=(fun v4 v9=>(aa (am [(.int .i64 0),(.int .i64 0),(.agg 24 (List.replicate 8 (.int .u64 0)))] []) fun x0=>aa (stv b s 26 (.agg 26 x0) v4) fun s1=>some (.normal,[(4,v4),(5,v9)],s1):OR)) (get ρ 4) (get ρ 9):=zr
@[go_sem]theorem ZG:rc D b Kr ρ s=(fun v4 v7 v8=>(aa (ae 42 0 10 v7) fun x0=>aa (ldv s 10 x0) fun x1=>aa (ae 42 1 10 v7) fun x2=>aa (ldv s 10 x2) fun x3=>aa (ldv s 24 v8) fun x4=>aa (am [(.int .i64 0),(.int .i64 0),(.agg 24 (List.replicate 8 (.int .u64 0)))] [(0,x1),(1,x3),(2,x4)]) fun x5=>aa (stv b s 26 (.agg 26 x5) v4) fun s6=>some (.normal,[(4,v4),(5,(.int .i64 0))],s6):OR)) (get ρ 4) (get ρ 7) (get ρ 8):=zr
@[go_sem]theorem aii:rc D b HE ρ s=(fun v0 v1=>(let x0:V:=.ptr (St.fresh s false) [] 26; let s0:St:=St.new s false (.agg 26 [(.int .i64 0),(.int .i64 0),(.agg 24 (List.replicate 8 (.int .u64 0)))]); some (.normal,[(0,v0),(1,v1),(4,x0)],s0):OR)) (get ρ 0) (get ρ 1):=zr
@[go_sem]theorem aaq:rc D b Of ρ s=(fun v0 v1 v4=>(aa (rf D aX [v0,v1] s) fun x0=>some (.normal,[(0,v0),(1,v1),(4,v4),(6,x0.1)],x0.2):OR)) (get ρ 0) (get ρ 1) (get ρ 4):=zr
@[go_sem]theorem adO:rc D b JO ρ s=(fun v0 v1 v4 v6=>(aa (ac .neq v6 (.int .i64 0)) fun x0=>some (.normal,[(0,v0),(1,v1),(4,v4),(6,v6),(12,x0)],s):OR)) (get ρ 0) (get ρ 1) (get ρ 4) (get ρ 6):=zr
@[go_sem]theorem aak:rc D b Qc ρ s=(fun v4 v6=>(aa (am [(.int .i64 0),(.int .i64 0),(.agg 24 (List.replicate 8 (.int .u64 0)))] []) fun x0=>aa (stv b s 26 (.agg 26 x0) v4) fun s1=>some (.normal,[(4,v4),(5,v6)],s1):OR)) (get ρ 4) (get ρ 6):=zr
@[go_sem]theorem adF:rc D b LN ρ s=(fun v0 v1 v4=>(aa (ag v0) fun x0=>aa (ae 31 0 1 x0) fun x1=>aa (ldv s 1 x1) fun x2=>aa (ag v0) fun x3=>aa (ae 31 2 48 x3) fun x4=>aa (bc 48 49 42 x4 v1) fun x5=>aa (ae 42 2 10 x5) fun x6=>aa (ldv s 10 x6) fun x7=>aa (dj D (aV b [x2,x7]) b aW [x2,x7] s) fun x8=>aa (aw 0 x8) fun x9=>aa (aw 1 x8) fun x10=>let x11:V:=.ptr (St.fresh s false) [] 24; let s11:St:=St.new s false (.agg 24 (List.replicate 8 (.int .u64 0))); aa (stv b s11 24 x9 x11) fun s12=>some (.normal,[(0,v0),(1,v1),(4,v4),(6,x10),(7,x11)],s12):OR)) (get ρ 0) (get ρ 1) (get ρ 4):=zd
@[go_sem]theorem aif:rc D b Hq ρ s=(fun v0 v1 v4 v6 v7=>(aa (ac .neq v6 (.int .i64 0)) fun x0=>some (.normal,[(0,v0),(1,v1),(4,v4),(6,v6),(7,v7),(31,x0)],s):OR)) (get ρ 0) (get ρ 1) (get ρ 4) (get ρ 6) (get ρ 7):=zr
@[go_sem]theorem ads:rc D b HJ ρ s=(fun v4 v6=>(aa (am [(.int .i64 0),(.int .i64 0),(.agg 24 (List.replicate 8 (.int .u64 0)))] []) fun x0=>aa (stv b s 26 (.agg 26 x0) v4) fun s1=>some (.normal,[(4,v4),(5,v6)],s1):OR)) (get ρ 4) (get ρ 6):=zr
@[go_sem]theorem afg:rc D b NF ρ s=(fun v0 v1 v4 v7=>(aa (ag v0) fun x0=>aa (ae 31 2 48 x0) fun x1=>aa (bc 48 49 42 x1 v1) fun x2=>aa (ae 42 0 10 x2) fun x3=>aa (ldv s 10 x3) fun x4=>aa (ag v0) fun x5=>aa (ae 31 2 48 x5) fun x6=>aa (bc 48 49 42 x6 v1) fun x7=>aa (ae 42 1 10 x7) fun x8=>aa (ldv s 10 x8) fun x9=>aa (ldv s 24 v7) fun x10=>aa (am [(.int .i64 0),(.int .i64 0),(.agg 24 (List.replicate 8 (.int .u64 0)))] [(0,x4),(1,x9),(2,x10)]) fun x11=>aa (stv b s 26 (.agg 26 x11) v4) fun s12=>some (.normal,[(4,v4),(5,(.int .i64 0))],s12):OR)) (get ρ 0) (get ρ 1) (get ρ 4) (get ρ 7):=zd
@[go_sem]theorem ZU:rc D b OP ρ s=(fun v0 v1=>(some (.normal,[(0,v0),(1,v1)],s):OR)) (get ρ 0) (get ρ 1):=zr
@[go_sem]theorem adU:rc D b I2 ρ s=(fun v0 v1=>(aa (rf D ky [v1] s) fun x0=>aa (aw 0 x0.1) fun x1=>aa (aw 1 x0.1) fun x2=>let x3:V:=.ptr (St.fresh x0.2 false) [] 40; let s3:St:=St.new x0.2 false (.agg 40 [(.int .i64 0),(.int .i64 0),(.int .i64 0),(.int .i64 0),(.int .i64 0)]); aa (stv b s3 40 x1 x3) fun s4=>some (.normal,[(0,v0),(1,v1),(6,x3),(7,x2)],s4):OR)) (get ρ 0) (get ρ 1):=zr
@[go_sem]theorem agW:rc D b Pb ρ s=(fun v0 v1 v6 v7=>(aa (vun .not v7) fun x0=>some (.normal,[(0,v0),(1,v1),(6,v6),(15,x0)],s):OR)) (get ρ 0) (get ρ 1) (get ρ 6) (get ρ 7):=zr
@[go_sem]theorem aam:rc D b Nr ρ s= some (.normal,[(4,(.int .i64 0)),(5,(.int .i64 31))],s):=zr
@[go_sem]theorem aae:rc D b LF ρ s=(fun v0 v1 v6=>(aa (ae 40 2 10 v6) fun x0=>aa (ldv s 10 x0) fun x1=>aa (ag v0) fun x2=>aa (ae 43 2 48 x2) fun x3=>aa (bc 48 49 42 x3 x1) fun x4=>aa (ldv s 42 x4) fun x5=>aa (ae 40 2 10 v6) fun x6=>aa (ldv s 10 x6) fun x7=>aa (dj D (aV b [x5,x7,v1]) b kj [x5,x7,v1] s) fun x8=>some (.normal,[(6,v6),(8,x8)],s):OR)) (get ρ 0) (get ρ 1) (get ρ 6):=zd
@[go_sem]theorem agb:rc D b I3 ρ s=(fun v6 v8=>(aa (ac .neq v8 (.int .i64 0)) fun x0=>some (.normal,[(6,v6),(8,v8),(28,x0)],s):OR)) (get ρ 6) (get ρ 8):=zr
@[go_sem]theorem agf:rc D b PZ ρ s=(fun v8=>(some (.normal,[(4,(.int .i64 0)),(5,v8)],s):OR)) (get ρ 8):=zr
@[go_sem]theorem aah:rc D b Ry ρ s=(fun v6=>(aa (ae 40 2 10 v6) fun x0=>aa (ldv s 10 x0) fun x1=>some (.normal,[(4,x1),(5,(.int .i64 0))],s):OR)) (get ρ 6):=zr
@[go_sem]theorem agL:rc D b IU ρ s=(fun v0 v1=>(some (.normal,[(0,v0),(1,v1)],s):OR)) (get ρ 0) (get ρ 1):=zr
@[go_sem]theorem adm:rc D b Pf ρ s=(fun v0 v1=>(aa (rf D dA [v1] s) fun x0=>aa (aw 0 x0.1) fun x1=>aa (aw 1 x0.1) fun x2=>let x3:V:=.ptr (St.fresh x0.2 false) [] 40; let s3:St:=St.new x0.2 false (.agg 40 [(.int .i64 0),(.int .i64 0),(.int .i64 0),(.int .i64 0),(.int .i64 0)]); aa (stv b s3 40 x1 x3) fun s4=>some (.normal,[(0,v0),(1,v1),(6,x3),(7,x2)],s4):OR)) (get ρ 0) (get ρ 1):=zr
@[go_sem]theorem aeL:rc D b RA ρ s=(fun v0 v1 v6 v7=>(aa (vun .not v7) fun x0=>some (.normal,[(0,v0),(1,v1),(6,v6),(15,x0)],s):OR)) (get ρ 0) (get ρ 1) (get ρ 6) (get ρ 7):=zr
@[go_sem]theorem abD:rc D b MF ρ s= some (.normal,[(4,(.int .i64 0)),(5,(.int .i64 31))],s):=zr
@[go_sem]theorem acp:rc D b OX ρ s=(fun v0 v1 v6=>(aa (ae 40 2 10 v6) fun x0=>aa (ldv s 10 x0) fun x1=>aa (ag v0) fun x2=>aa (ae 31 2 48 x2) fun x3=>aa (bc 48 49 42 x3 x1) fun x4=>aa (ldv s 42 x4) fun x5=>aa (ae 40 2 10 v6) fun x6=>aa (ldv s 10 x6) fun x7=>aa (dj D (aV b [x5,x7,v1]) b eZ [x5,x7,v1] s) fun x8=>some (.normal,[(6,v6),(8,x8)],s):OR)) (get ρ 0) (get ρ 1) (get ρ 6):=zd
@[go_sem]theorem afs:rc D b NW ρ s=(fun v6 v8=>(aa (ac .neq v8 (.int .i64 0)) fun x0=>some (.normal,[(6,v6),(8,v8),(28,x0)],s):OR)) (get ρ 6) (get ρ 8):=zr
@[go_sem]theorem aev:rc D b RR ρ s=(fun v8=>(some (.normal,[(4,(.int .i64 0)),(5,v8)],s):OR)) (get ρ 8):=zr
@[go_sem]theorem af8:rc D b P9 ρ s=(fun v6=>(aa (ae 40 2 10 v6) fun x0=>aa (ldv s 10 x0) fun x1=>some (.normal,[(4,x1),(5,(.int .i64 0))],s):OR)) (get ρ 6):=zr
@[go_sem]theorem af2:rc D b MJ ρ s=(fun v0 v1=>(some (.normal,[(0,v0),(1,v1)],s):OR)) (get ρ 0) (get ρ 1):=zr
@[go_sem]theorem YV:rc D b RC ρ s=(fun v0 v1=>(some (.normal,[(0,v0),(9,v1)],s):OR)) (get ρ 0) (get ρ 1):=zr
@[go_sem]theorem agh:rc D b LX ρ s=(fun v0 v9=>(aa (ac .eql v9 (.int .i64 1)) fun x0=>some (.normal,[(0,v0),(9,v9),(10,x0)],s):OR)) (get ρ 0) (get ρ 9):=zr
@[go_sem]theorem ah6:rc D b KT ρ s=(fun v0 v9=>(aa (ac .eql v9 (.int .i64 2)) fun x0=>some (.normal,[(0,v0),(9,v9),(10,x0)],s):OR)) (get ρ 0) (get ρ 9):=zr
@[go_sem]theorem aeA:rc D b Pm ρ s=(fun v0 v9=>(aa (ac .eql v9 (.int .i64 4)) fun x0=>some (.normal,[(0,v0),(10,x0)],s):OR)) (get ρ 0) (get ρ 9):=zr
@[go_sem]theorem abb:rc D b MD ρ s= some (.normal,[(4,(.int .i64 0)),(5,(.int .i64 0)),(6,(.int .i64 1))],s):=zr
@[go_sem]theorem af6:rc D b RE ρ s=(fun v0=>(aa (ag v0) fun x0=>aa (ae 43 2 48 x0) fun x1=>aa (ldv s 48 x1) fun x2=>some (.normal,[(17,x2),(18,(.int .i64 0))],s):OR)) (get ρ 0):=zr
@[go_sem]theorem aa1:rc D b HL ρ s=(fun v17 v18=>(aa (ac .lss v18 (.int .i64 49)) fun x0=>some (.normal,[(17,v17),(18,v18),(19,x0)],s):OR)) (get ρ 17) (get ρ 18):=zr
@[go_sem]theorem ah4:rc D b Kf ρ s=(fun v17 v18=>(aa (lZ 48 49 v17 v18) fun x0=>let x1:V:=.ptr (St.fresh s false) [] 42; let s1:St:=St.new s false (.agg 42 [(.int .i64 0),(.int .i64 0),(.int .i64 0)]); aa (stv b s1 42 x0 x1) fun s2=>some (.normal,[(7,v18),(8,x1),(17,v17),(18,v18)],s2):OR)) (get ρ 17) (get ρ 18):=zr
@[go_sem]theorem acV:rc D b RM ρ s=(fun v7 v8 v17 v18=>(aa (ldv s 42 v8) fun x0=>aa (rf D kK [x0] s) fun x1=>some (.normal,[(7,v7),(8,v8),(17,v17),(18,v18),(23,x1.1)],x1.2):OR)) (get ρ 7) (get ρ 8) (get ρ 17) (get ρ 18):=zr
@[go_sem]theorem XX:rc D b Cg ρ s=(fun v7 v8=>(aa (ae 42 1 10 v8) fun x0=>aa (ldv s 10 x0) fun x1=>some (.normal,[(4,v7),(5,x1),(6,(.int .i64 0))],s):OR)) (get ρ 7) (get ρ 8):=zd
@[go_sem]theorem Yg:rc D b DF ρ s=(fun v17 v18=>(aa (ac .add v18 (.int .i64 1)) fun x0=>some (.normal,[(17,v17),(18,x0)],s):OR)) (get ρ 17) (get ρ 18):=zr
@[go_sem]theorem Xt:rc D b D5 ρ s= some (.normal,[(4,(.int .i64 0)),(5,(.int .i64 0)),(6,(.int .i64 34))],s):=zr
@[go_sem]theorem ahb:rc D b Ik ρ s=(fun v0 v1=>(some (.normal,[(0,v0),(1,v1)],s):OR)) (get ρ 0) (get ρ 1):=zr
@[go_sem]theorem adD:rc D b Jw ρ s=(fun v0 v1=>(aa (ac .neq v1 (.int .i64 1)) fun x0=>al x0 true (aa (ac .neq v1 (.int .i64 2)) fun x1=>al x1 true (aa (ac .neq v1 (.int .i64 4)) fun x2=>some (.normal,[(0,v0),(17,x2)],s)) (some (.normal,[(0,v0),(17,(.bool false))],s)) (none)) (some (.normal,[(0,v0),(17,(.bool false))],s)) (none):OR)) (get ρ 0) (get ρ 1):=zr
@[go_sem]theorem aai:rc D b Q3 ρ s= some (.normal,[(4,(.int .i64 0)),(5,(.int .i64 0)),(6,(.int .i64 1))],s):=zr
@[go_sem]theorem abE:rc D b Qj ρ s=(fun v0=>(some (.normal,[(0,v0),(7,(.int .i64 0))],s):OR)) (get ρ 0):=zr
@[go_sem]theorem adk:rc D b Hy ρ s=(fun v0 v7=>(aa (ac .lss v7 (.int .i64 49)) fun x0=>some (.normal,[(0,v0),(7,v7),(19,x0)],s):OR)) (get ρ 0) (get ρ 7):=zr
@[go_sem]theorem acY:rc D b KE ρ s=(fun v0 v7=>(aa (ag v0) fun x0=>aa (ae 31 2 48 x0) fun x1=>aa (bc 48 49 42 x1 v7) fun x2=>aa (ldv s 42 x2) fun x3=>aa (rf D fJ [x3] s) fun x4=>some (.normal,[(0,v0),(7,v7),(28,x4.1)],x4.2):OR)) (get ρ 0) (get ρ 7):=zr
@[go_sem]theorem adY:rc D b HO ρ s=(fun v0 v7=>(aa (ag v0) fun x0=>aa (ae 31 2 48 x0) fun x1=>aa (bc 48 49 42 x1 v7) fun x2=>aa (ae 42 1 10 x2) fun x3=>aa (ldv s 10 x3) fun x4=>some (.normal,[(4,v7),(5,x4),(6,(.int .i64 0))],s):OR)) (get ρ 0) (get ρ 7):=zd
@[go_sem]theorem ab0:rc D b LD ρ s=(fun v0 v7=>(aa (ac .add v7 (.int .i64 1)) fun x0=>some (.normal,[(0,v0),(7,x0)],s):OR)) (get ρ 0) (get ρ 7):=zr
@[go_sem]theorem acR:rc D b MB ρ s= some (.normal,[(4,(.int .i64 0)),(5,(.int .i64 0)),(6,(.int .i64 34))],s):=zr
@[go_sem]theorem aaU:rc D b HT ρ s=(fun v0 v1=>(some (.normal,[(0,v0),(1,v1)],s):OR)) (get ρ 0) (get ρ 1):=zr
@[go_sem]theorem afF:rc D b O4 ρ s=(fun v0 v1=>(aa (rf D fV [v0] s) fun x0=>aa (aw 0 x0.1) fun x1=>aa (aw 1 x0.1) fun x2=>let x3:V:=.ptr (St.fresh x0.2 false) [] 48; let s3:St:=St.new x0.2 false (.agg 48 (List.replicate 49 (.agg 42 [(.int .i64 0),(.int .i64 0),(.int .i64 0)]))); let x4:V:=.ptr (St.fresh s3 false) [] 50; let s4:St:=St.new s3 false (.agg 50 (List.replicate 8 (.int .i64 0))); aa (stv b s4 48 x1 x3) fun s5=>aa (stv b s5 50 x2 x4) fun s6=>some (.normal,[(0,v0),(1,v1),(5,x3),(6,x4)],s6):OR)) (get ρ 0) (get ρ 1):=zr
@[go_sem]theorem afk:rc D b Kk ρ s=(fun v0 v1 v5 v6=>(aa (rf D eX [v0] s) fun x0=>aa (aw 0 x0.1) fun x1=>aa (aw 1 x0.1) fun x2=>let x3:V:=.ptr (St.fresh x0.2 false) [] 48; let s3:St:=St.new x0.2 false (.agg 48 (List.replicate 49 (.agg 42 [(.int .i64 0),(.int .i64 0),(.int .i64 0)]))); aa (stv b s3 48 x1 x3) fun s4=>some (.normal,[(0,v0),(1,v1),(5,v5),(6,v6),(7,x3),(8,x2)],s4):OR)) (get ρ 0) (get ρ 1) (get ρ 5) (get ρ 6):=zr
@[go_sem]theorem agx:rc D b Ix ρ s=(fun v0 v1 v5 v6 v7 v8=>(aa (dj D (aV b [v0]) b cG [v0] s) fun x0=>aa (ag v1) fun x1=>aa (ae 31 2 48 x1) fun x2=>aa (ldv s 48 x2) fun x3=>aa (eqv false 48 x0 x3) fun x4=>al x4 true (aa (ldv s 48 v5) fun x5=>aa (ag v1) fun x6=>aa (ae 31 3 48 x6) fun x7=>aa (ldv s 48 x7) fun x8=>aa (eqv false 48 x5 x8) fun x9=>al x9 true (aa (ldv s 50 v6) fun x10=>aa (ag v1) fun x11=>aa (ae 31 4 50 x11) fun x12=>aa (ldv s 50 x12) fun x13=>aa (eqv false 50 x10 x13) fun x14=>al x14 true (aa (ag v1) fun x15=>aa (ae 31 6 0 x15) fun x16=>aa (ldv s 0 x16) fun x17=>aa (eqv false 0 v8 x17) fun x18=>al x18 true (aa (vun .not v8) fun x19=>al x19 false (aa (ldv s 48 v7) fun x20=>aa (ag v1) fun x21=>aa (ae 31 5 48 x21) fun x22=>aa (ldv s 48 x22) fun x23=>aa (eqv false 48 x20 x23) fun x24=>al x24 true (aa (dj D (aV b [v0]) b d9 [v0] s) fun x25=>aa (ag v1) fun x26=>aa (ae 31 1 1 x26) fun x27=>aa (ldv s 1 x27) fun x28=>aa (dj D (aV b [x28]) b aI [x28] s) fun x29=>aa (ac .eql x25 x29) fun x30=>some (.normal,[(4,x30)],s)) (some (.normal,[(4,(.bool false))],s)) (none)) (aa (dj D (aV b [v0]) b d9 [v0] s) fun x20=>aa (ag v1) fun x21=>aa (ae 31 1 1 x21) fun x22=>aa (ldv s 1 x22) fun x23=>aa (dj D (aV b [x23]) b aI [x23] s) fun x24=>aa (ac .eql x20 x24) fun x25=>some (.normal,[(4,x25)],s)) (none)) (some (.normal,[(4,(.bool false))],s)) (none)) (some (.normal,[(4,(.bool false))],s)) (none)) (some (.normal,[(4,(.bool false))],s)) (none)) (some (.normal,[(4,(.bool false))],s)) (none):OR)) (get ρ 0) (get ρ 1) (get ρ 5) (get ρ 6) (get ρ 7) (get ρ 8):=zd
@[go_sem]theorem ac8:rc D b Jt ρ s=(fun v0=>(some (.normal,[(0,v0)],s):OR)) (get ρ 0):=zr
@[go_sem]theorem aaz:rc D b RQ ρ s=(fun v0=>(aa (ag v0) fun x0=>aa (ae 59 4 10 x0) fun x1=>aa (ldv s 10 x1) fun x2=>some (.normal,[(2,x2)],s):OR)) (get ρ 0):=zr
@[go_sem]theorem ab7:rc D b Qd ρ s=(fun v0 v1=>(let x0:V:=.ptr (St.fresh s false) [] 24; let s0:St:=St.new s false (.agg 24 (List.replicate 8 (.int .u64 0))); some (.normal,[(0,v0),(1,v1),(4,x0)],s0):OR)) (get ρ 0) (get ρ 1):=zr
@[go_sem]theorem afO:rc D b Ki ρ s=(fun v0 v1 v4=>(aa (rf D fH [v0,v1] s) fun x0=>some (.normal,[(0,v0),(4,v4),(6,x0.1)],x0.2):OR)) (get ρ 0) (get ρ 1) (get ρ 4):=zr
@[go_sem]theorem ad3:rc D b JA ρ s=(fun v0 v4 v6=>(aa (eqv false 1 v6 .nilp) fun x0=>some (.normal,[(0,v0),(4,v4),(6,v6),(10,x0)],s):OR)) (get ρ 0) (get ρ 4) (get ρ 6):=zr
@[go_sem]theorem aho:rc D b KX ρ s=(fun v4=>(aa (am (List.replicate 8 (.int .u64 0)) []) fun x0=>aa (stv b s 24 (.agg 24 x0) v4) fun s1=>some (.normal,[(4,v4),(5,(.int .i64 1))],s1):OR)) (get ρ 4):=zr
@[go_sem]theorem aer:rc D b Pu ρ s=(fun v0 v4 v6=>(aa (ag v0) fun x0=>aa (ae 59 1 0 x0) fun x1=>aa (ldv s 0 x1) fun x2=>some (.normal,[(4,v4),(6,v6),(14,x2)],s):OR)) (get ρ 0) (get ρ 4) (get ρ 6):=zr
@[go_sem]theorem aaX:rc D b QH ρ s=(fun v4=>(aa (am (List.replicate 8 (.int .u64 0)) []) fun x0=>aa (stv b s 24 (.agg 24 x0) v4) fun s1=>some (.normal,[(4,v4),(5,(.int .i64 4))],s1):OR)) (get ρ 4):=zr
@[go_sem]theorem ahM:rc D b Oe ρ s=(fun v4 v6=>(aa (ag v6) fun x0=>aa (ae 55 0 24 x0) fun x1=>aa (ldv s 24 x1) fun x2=>aa (stv b s 24 x2 v4) fun s3=>some (.normal,[(4,v4),(5,(.int .i64 0))],s3):OR)) (get ρ 4) (get ρ 6):=zr
@[go_sem]theorem adn:rc D b HI ρ s=(fun v0 v1=>(let x0:V:=.ptr (St.fresh s false) [] 24; let s0:St:=St.new s false (.agg 24 (List.replicate 8 (.int .u64 0))); some (.normal,[(0,v0),(1,v1),(4,x0)],s0):OR)) (get ρ 0) (get ρ 1):=zr
@[go_sem]theorem acd:rc D b JW ρ s=(fun v0 v1 v4=>(aa (rf D bH [v0,v1] s) fun x0=>aa (vun .not x0.1) fun x1=>some (.normal,[(0,v0),(1,v1),(4,v4),(9,x1)],x0.2):OR)) (get ρ 0) (get ρ 1) (get ρ 4):=zr
@[go_sem]theorem aaD:rc D b NY ρ s=(fun v4=>(aa (am (List.replicate 8 (.int .u64 0)) []) fun x0=>aa (stv b s 24 (.agg 24 x0) v4) fun s1=>some (.normal,[(4,v4),(5,(.int .i64 1))],s1):OR)) (get ρ 4):=zr
@[go_sem]theorem af5:rc D b Jx ρ s=(fun v0 v1 v4=>(aa (ag v0) fun x0=>aa (ae 33 2 0 x0) fun x1=>aa (ldv s 0 x1) fun x2=>some (.normal,[(0,v0),(1,v1),(4,v4),(14,x2)],s):OR)) (get ρ 0) (get ρ 1) (get ρ 4):=zr
@[go_sem]theorem abo:rc D b Kl ρ s=(fun v4=>(aa (am (List.replicate 8 (.int .u64 0)) []) fun x0=>aa (stv b s 24 (.agg 24 x0) v4) fun s1=>some (.normal,[(4,v4),(5,(.int .i64 4))],s1):OR)) (get ρ 4):=zr
@[go_sem]theorem abM:rc D b Lh ρ s=(fun v0 v1 v4=>(aa (ag v0) fun x0=>aa (ae 33 1 1 x0) fun x1=>aa (ldv s 1 x1) fun x2=>aa (cl 1 x2 v1) fun x3=>aa (ldv s 1 x3) fun x4=>aa (V.slen false x4) fun x5=>aa (rf D dt [v0,v1,(.int .i64 x5)] s) fun x6=>aa (stv b x6.2 24 x6.1 v4) fun s7=>some (.normal,[(4,v4),(5,(.int .i64 0))],s7):OR)) (get ρ 0) (get ρ 1) (get ρ 4):=zr
@[go_sem]theorem afy:rc D b Pe ρ s=(fun v0=>(let x0:V:=.ptr (St.fresh s false) [] 48; let s0:St:=St.new s false (.agg 48 (List.replicate 49 (.agg 42 [(.int .i64 0),(.int .i64 0),(.int .i64 0)]))); some (.normal,[(0,v0),(2,x0)],s0):OR)) (get ρ 0):=zr
@[go_sem]theorem afW:rc D b HM ρ s=(fun v0 v2=>(aa (ag v0) fun x0=>aa (ae 43 2 48 x0) fun x1=>aa (ldv s 48 x1) fun x2=>aa (stv b s 48 x2 v2) fun s3=>some (.normal,[(2,v2)],s3):OR)) (get ρ 0) (get ρ 2):=zr
@[go_sem]theorem acD:rc D b LZ ρ s=(fun v0=>(some (.normal,[(0,v0)],s):OR)) (get ρ 0):=zr
@[go_sem]theorem acH:rc D b JP ρ s=(fun v0=>(aa (V.slen false v0) fun x0=>aa (ac .lss (.int .i64 x0) (.int .i64 64)) fun x1=>al x1 false (aa (V.slen false v0) fun x2=>aa (ac .gtr (.int .i64 x2) (.int .i64 1024)) fun x3=>some (.normal,[(0,v0),(11,x3)],s)) (some (.normal,[(0,v0),(11,(.bool true))],s)) (none):OR)) (get ρ 0):=zr
@[go_sem]theorem afD:rc D b Oa ρ s= some (.normal,[(2,.nilp),(3,(.int .i64 1))],s):=zr
@[go_sem]theorem adR:rc D b QN ρ s=(fun v0=>(aa (kn true 58 24 0 (.agg 24 (List.replicate 8 (.int .u64 0))) s []) fun x0=>aa (aA b true 58 24 x0.1 v0 x0.2) fun x1=>aa (V.slen false v0) fun x2=>aa (qx true 53 1 .nils x1.2 (.int .i64 x2) (.int .i64 x2)) fun x3=>aa (am [.nils,.nils,(.bool false),(.int .i64 0),(.int .i64 0)] [(0,x1.1),(1,x3.1),(3,(.int .i64 (-1)))]) fun x4=>if V.ok (.agg 33 x4) && ay true (.agg 33 x4) then let x5:V:=.ptr (St.fresh x3.2 true) [] (V.tag (.agg 33 x4)); let s5:St:=St.new x3.2 true (.agg 33 x4); some (.normal,[(2,x5),(3,(.int .i64 0))],s5) else none:OR)) (get ρ 0):=zd
@[go_sem]theorem aiC:rc D b Ka ρ s=(fun v0 v1=>(some (.normal,[(0,v0),(1,v1)],s):OR)) (get ρ 0) (get ρ 1):=zr
@[go_sem]theorem abv:rc D b Mj ρ s=(fun v0 v1=>(aa (ac .lss v0 (.int .i64 0)) fun x0=>al x0 false (aa (ac .gtr v0 v1) fun x1=>al x1 false (aa (ac .gtr v1 (.int .i64 1024)) fun x2=>some (.normal,[(0,v0),(1,v1),(18,x2)],s)) (some (.normal,[(0,v0),(1,v1),(18,(.bool true))],s)) (none)) (some (.normal,[(0,v0),(1,v1),(18,(.bool true))],s)) (none):OR)) (get ρ 0) (get ρ 1):=zr
@[go_sem]theorem ahp:rc D b Qw ρ s= some (.normal,[(4,.nilp),(5,(.int .i64 1))],s):=zr
@[go_sem]theorem ag1:rc D b HQ ρ s=(fun v0 v1=>(aa (am [(.int .i64 0),(.int .i64 0),(.agg 78 (List.replicate 16 (.int .u64 0))),(.agg 78 (List.replicate 16 (.int .u64 0)))] [(0,v0),(1,v1)]) fun x0=>if V.ok (.agg 80 x0) && ay true (.agg 80 x0) then let x1:V:=.ptr (St.fresh s true) [] (V.tag (.agg 80 x0)); let s1:St:=St.new s true (.agg 80 x0); some (.normal,[(0,v0),(1,v1),(6,x1)],s1) else none:OR)) (get ρ 0) (get ρ 1):=zr
@[go_sem]theorem acP:rc D b NC ρ s=(fun v0 v1 v6=>(aa (ac .sub v1 v0) fun x0=>some (.normal,[(0,v0),(6,v6),(25,x0),(26,(.int .i64 0))],s):OR)) (get ρ 0) (get ρ 1) (get ρ 6):=zr
@[go_sem]theorem ahv:rc D b Iy ρ s=(fun v0 v6 v25 v26=>(aa (ac .lss v26 v25) fun x0=>some (.normal,[(0,v0),(6,v6),(25,v25),(26,v26),(27,x0)],s):OR)) (get ρ 0) (get ρ 6) (get ρ 25) (get ρ 26):=zr
@[go_sem]theorem adr:rc D b MR ρ s=(fun v0 v6 v25 v26=>(some (.normal,[(0,v0),(6,v6),(7,v26),(25,v25),(26,v26)],s):OR)) (get ρ 0) (get ρ 6) (get ρ 25) (get ρ 26):=zr
@[go_sem]theorem agp:rc D b O8 ρ s=(fun v0 v6 v7 v25 v26=>(aa (ag v6) fun x0=>aa (ae 80 2 78 x0) fun x1=>aa (ac .add v0 v7) fun x2=>aa (rf D aY [x1,x2] s) fun x3=>some (.normal,[(0,v0),(6,v6),(25,v25),(26,v26)],x3.2):OR)) (get ρ 0) (get ρ 6) (get ρ 7) (get ρ 25) (get ρ 26):=zr
@[go_sem]theorem agy:rc D b Nf ρ s=(fun v0 v6 v25 v26=>(aa (ac .add v26 (.int .i64 1)) fun x0=>some (.normal,[(0,v0),(6,v6),(25,v25),(26,x0)],s):OR)) (get ρ 0) (get ρ 6) (get ρ 25) (get ρ 26):=zr
@[go_sem]theorem ZW:rc D b K0 ρ s=(fun v6=>(some (.normal,[(4,v6),(5,(.int .i64 0))],s):OR)) (get ρ 6):=zr
@[go_sem]theorem aiK:rc D b RI ρ s=(fun v0=>(some (.normal,[(0,v0)],s):OR)) (get ρ 0):=zr
@[go_sem]theorem agO:rc D b Mw ρ s=(fun v0=>(aa (ag v0) fun x0=>aa (ae 59 0 1 x0) fun x1=>aa (ldv s 1 x1) fun x2=>aa (V.slen false x2) fun x3=>some (.normal,[(2,(.int .i64 x3))],s):OR)) (get ρ 0):=zr
@[go_sem]theorem acI:rc D b No ρ s=(fun v0 v1=>(some (.normal,[(0,v0),(1,v1)],s):OR)) (get ρ 0) (get ρ 1):=zr
@[go_sem]theorem ace:rc D b Je ρ s=(fun v0 v1=>(aa (rf D cg [v0,v1,(.int .i64 0)] s) fun x0=>some (.normal,[(0,v0),(1,v1),(5,x0.1)],x0.2):OR)) (get ρ 0) (get ρ 1):=zr
@[go_sem]theorem agK:rc D b Rw ρ s=(fun v0 v1 v5=>(aa (ac .eql v5 (.int .i64 0)) fun x0=>some (.normal,[(0,v0),(1,v1),(5,v5),(10,x0)],s):OR)) (get ρ 0) (get ρ 1) (get ρ 5):=zr
@[go_sem]theorem aaa:rc D b Jv ρ s=(fun v0 v1 v5=>(aa (ag v0) fun x0=>aa (ae 80 2 78 x0) fun x1=>aa (rf D aY [x1,v1] s) fun x2=>some (.normal,[(5,v5)],x2.2):OR)) (get ρ 0) (get ρ 1) (get ρ 5):=zr
@[go_sem]theorem agT:rc D b Nl ρ s=(fun v5=>(some (.normal,[(4,v5)],s):OR)) (get ρ 5):=zr
@[go_sem]theorem adQ:rc D b Ks ρ s=(fun v0=>(aa (am (List.replicate 1024 (.bool false)) []) fun x0=>aa (ag v0) fun x1=>aa (ae 43 7 82 x1) fun x2=>aa (stv b s 82 (.agg 82 x0) x2) fun s3=>some (.normal,[(0,v0)],s3):OR)) (get ρ 0):=zr
@[go_sem]theorem ZN:rc D b I5 ρ s=(fun v0=>(aa (ag v0) fun x0=>aa (ae 43 7 82 x0) fun x1=>aa (ag v0) fun x2=>aa (ae 43 3 48 x2) fun x3=>aa (ldv s 48 x3) fun x4=>aa (rf D bx [x1,x4] s) fun x5=>some (.normal,[(0,v0)],x5.2):OR)) (get ρ 0):=zd
@[go_sem]theorem agY:rc D b Jo ρ s=(fun v0=>(aa (ag v0) fun x0=>aa (ae 43 6 0 x0) fun x1=>aa (ldv s 0 x1) fun x2=>some (.normal,[(0,v0),(17,x2)],s):OR)) (get ρ 0):=zr
@[go_sem]theorem aiq:rc D b R3 ρ s=(fun v0=>(aa (ag v0) fun x0=>aa (ae 43 7 82 x0) fun x1=>aa (ag v0) fun x2=>aa (ae 43 5 48 x2) fun x3=>aa (ldv s 48 x3) fun x4=>aa (rf D bx [x1,x4] s) fun x5=>some (.normal,[],x5.2):OR)) (get ρ 0):=zd
@[go_sem]theorem adC:rc D b Oq ρ s=(fun v0 v1=>(some (.normal,[(0,v0),(1,v1)],s):OR)) (get ρ 0) (get ρ 1):=zr
@[go_sem]theorem aiQ:rc D b Iu ρ s=(fun v0 v1=>(aa (ac .lss v0 (.int .i64 0)) fun x0=>al x0 false (aa (ac .gtr v0 v1) fun x1=>al x1 false (aa (ac .gtr v1 (.int .i64 1024)) fun x2=>some (.normal,[(0,v0),(1,v1),(16,x2)],s)) (some (.normal,[(0,v0),(1,v1),(16,(.bool true))],s)) (none)) (some (.normal,[(0,v0),(1,v1),(16,(.bool true))],s)) (none):OR)) (get ρ 0) (get ρ 1):=zr
@[go_sem]theorem aaI:rc D b Iq ρ s= some (.normal,[(4,.nilp),(5,(.int .i64 1))],s):=zr
@[go_sem]theorem adj:rc D b Hz ρ s=(fun v0 v1=>(aa (ac .sub v1 v0) fun x0=>aa (qx true 38 10 (.int .i64 0) s x0 x0) fun x1=>aa (am [(.int .i64 0),.nils] [(0,v0),(1,x1.1)]) fun x2=>if V.ok (.agg 21 x2) && ay true (.agg 21 x2) then let x3:V:=.ptr (St.fresh x1.2 true) [] (V.tag (.agg 21 x2)); let s3:St:=St.new x1.2 true (.agg 21 x2); some (.normal,[(4,x3),(5,(.int .i64 0))],s3) else none:OR)) (get ρ 0) (get ρ 1):=zr
@[go_sem]theorem adN:rc D b KF ρ s=(fun v0=>(if V.ok v0 && ay false v0 then let x0:V:=.ptr (St.fresh s false) [] (V.tag v0); let s0:St:=St.new s false v0; some (.normal,[(1,x0)],s0) else none:OR)) (get ρ 0):=zr
@[go_sem]theorem ac1:rc D b Id ρ s=(fun v1=>(some (.normal,[(1,v1),(3,.nils)],s):OR)) (get ρ 1):=zr
@[go_sem]theorem acX:rc D b K5 ρ s=(fun v1 v3=>(some (.normal,[(1,v1),(3,v3),(4,(.int .i64 0))],s):OR)) (get ρ 1) (get ρ 3):=zr
@[go_sem]theorem acM:rc D b PL ρ s=(fun v1 v3 v4=>(aa (ac .lss v4 (.int .i64 49)) fun x0=>some (.normal,[(1,v1),(3,v3),(4,v4),(6,x0)],s):OR)) (get ρ 1) (get ρ 3) (get ρ 4):=zr
@[go_sem]theorem ag8:rc D b OG ρ s=(fun v1 v3 v4=>(aa (bc 48 49 42 v1 v4) fun x0=>aa (ae 42 0 10 x0) fun x1=>aa (ldv s 10 x1) fun x2=>aa (ac .neq x2 (.int .i64 0)) fun x3=>some (.normal,[(1,v1),(3,v3),(4,v4),(13,x3)],s):OR)) (get ρ 1) (get ρ 3) (get ρ 4):=zr
@[go_sem]theorem ZV:rc D b Rk ρ s=(fun v1 v3 v4=>(aa (bc 48 49 42 v1 v4) fun x0=>aa (ae 42 2 10 x0) fun x1=>aa (ldv s 10 x1) fun x2=>aa (kn false 38 10 1 (.int .i64 0) s [(0,x2)]) fun x3=>aa (aA b true 38 10 v3 x3.1 x3.2) fun x4=>some (.normal,[(1,v1),(3,x4.1),(4,v4)],x4.2):OR)) (get ρ 1) (get ρ 3) (get ρ 4):=zr
@[go_sem]theorem aiN:rc D b KV ρ s=(fun v1 v3 v4=>(aa (ac .add v4 (.int .i64 1)) fun x0=>some (.normal,[(1,v1),(3,v3),(4,x0)],s):OR)) (get ρ 1) (get ρ 3) (get ρ 4):=zr
@[go_sem]theorem agI:rc D b IY ρ s=(fun v3=>(some (.normal,[(2,v3)],s):OR)) (get ρ 3):=zr
@[go_sem]theorem aeN:rc D b Nk ρ s=(fun v0 v1=>(some (.normal,[(0,v0),(1,v1)],s):OR)) (get ρ 0) (get ρ 1):=zr
@[go_sem]theorem ZJ:rc D b IX ρ s=(fun v0 v1=>(aa (rf D aO [v0,v1,(.int .i64 0),(.int .i64 1)] s) fun x0=>some (.normal,[(4,x0.1)],x0.2):OR)) (get ρ 0) (get ρ 1):=zr
@[go_sem]theorem ahA:rc D b PA ρ s=(fun v0=>(some (.normal,[(0,v0)],s):OR)) (get ρ 0):=zr
@[go_sem]theorem aar:rc D b JK ρ s=(fun v0=>(aa (ag v0) fun x0=>aa (ae 80 2 78 x0) fun x1=>aa (ldv s 78 x1) fun x2=>some (.normal,[(0,v0),(10,x2),(11,(.int .i64 0))],s):OR)) (get ρ 0):=zr
@[go_sem]theorem ZY:rc D b Ji ρ s=(fun v0 v10 v11=>(aa (ac .lss v11 (.int .i64 16)) fun x0=>some (.normal,[(0,v0),(10,v10),(11,v11),(12,x0)],s):OR)) (get ρ 0) (get ρ 10) (get ρ 11):=zr
@[go_sem]theorem Zm:rc D b Pt ρ s=(fun v0 v10 v11=>(aa (lZ 78 16 v10 v11) fun x0=>some (.normal,[(0,v0),(4,v11),(5,x0),(10,v10),(11,v11)],s):OR)) (get ρ 0) (get ρ 10) (get ρ 11):=zr
@[go_sem]theorem af3:rc D b IB ρ s=(fun v0 v4 v5 v10 v11=>(aa (ac .neq v5 (.int .u64 0)) fun x0=>some (.normal,[(0,v0),(4,v4),(5,v5),(10,v10),(11,v11),(16,x0)],s):OR)) (get ρ 0) (get ρ 4) (get ρ 5) (get ρ 10) (get ρ 11):=zr
@[go_sem]theorem agc:rc D b Qh ρ s=(fun v0 v4 v5=>(aa (ac .mul (.int .i64 64) v4) fun x0=>aa (rf D du [v5] s) fun x1=>aa (ac .add x0 x1.1) fun x2=>some (.normal,[(0,v0),(6,x2)],x1.2):OR)) (get ρ 0) (get ρ 4) (get ρ 5):=zr
@[go_sem]theorem acE:rc D b Rt ρ s=(fun v0 v6=>(aa (ag v0) fun x0=>aa (ae 80 2 78 x0) fun x1=>aa (rf D aY [x1,v6] s) fun x2=>some (.normal,[(6,v6)],x2.2):OR)) (get ρ 0) (get ρ 6):=zr
@[go_sem]theorem acs:rc D b Rp ρ s=(fun v6=>(some (.normal,[(2,v6),(3,(.int .i64 0))],s):OR)) (get ρ 6):=zr
@[go_sem]theorem YR:rc D b Hu ρ s=(fun v0 v10 v11=>(aa (ac .add v11 (.int .i64 1)) fun x0=>some (.normal,[(0,v0),(10,v10),(11,x0)],s):OR)) (get ρ 0) (get ρ 10) (get ρ 11):=zr
@[go_sem]theorem Zz:rc D b Mp ρ s= some (.normal,[(2,(.int .i64 0)),(3,(.int .i64 10))],s):=zr
@[go_sem]theorem aea:rc D b R8 ρ s=(fun v0=>(some (.normal,[(0,v0)],s):OR)) (get ρ 0):=zr
@[go_sem]theorem abC:rc D b KS ρ s=(fun v0=>(aa (eqv false 3 v0 .nils) fun x0=>some (.normal,[(0,v0),(4,x0)],s):OR)) (get ρ 0):=zr
@[go_sem]theorem ahL:rc D b K7 ρ s= some (.normal,[(2,.nils)],s):=zr
@[go_sem]theorem aeQ:rc D b IA ρ s=(fun v0=>(aa (kn true 57 55 0 (.agg 55 [(.agg 24 (List.replicate 8 (.int .u64 0))),(.agg 24 (List.replicate 8 (.int .u64 0))),.nils,(.agg 50 (List.replicate 8 (.int .i64 0)))]) s []) fun x0=>aa (aA b true 57 55 x0.1 v0 x0.2) fun x1=>some (.normal,[(2,x1.1)],x1.2):OR)) (get ρ 0):=zr
@[go_sem]theorem acT:rc D b N5 ρ s=(fun v0=>(some (.normal,[(0,v0)],s):OR)) (get ρ 0):=zr
@[go_sem]theorem afl:rc D b QO ρ s=(fun v0=>(aa (eqv false 3 v0 .nils) fun x0=>some (.normal,[(0,v0),(4,x0)],s):OR)) (get ρ 0):=zr
@[go_sem]theorem aa4:rc D b K8 ρ s= some (.normal,[(2,.nils)],s):=zr
@[go_sem]theorem abN:rc D b J1 ρ s=(fun v0=>(aa (kn true 86 84 0 (.agg 84 [(.int .i64 0),(.int .u64 0)]) s []) fun x0=>aa (aA b true 86 84 x0.1 v0 x0.2) fun x1=>some (.normal,[(2,x1.1)],x1.2):OR)) (get ρ 0):=zr
@[go_sem]theorem afV:rc D b LG ρ s=(fun v0=>(some (.normal,[(0,v0)],s):OR)) (get ρ 0):=zr
@[go_sem]theorem aeX:rc D b QS ρ s=(fun v0=>(aa (ag v0) fun x0=>aa (ldv s 80 x0) fun x1=>let x2:V:=.ptr (St.fresh s true) [] 80; let s2:St:=St.new s true (.agg 80 [(.int .i64 0),(.int .i64 0),(.agg 78 (List.replicate 16 (.int .u64 0))),(.agg 78 (List.replicate 16 (.int .u64 0)))]); aa (stv b s2 80 x1 x2) fun s3=>some (.normal,[(3,x2)],s3):OR)) (get ρ 0):=zr
@[go_sem]theorem agZ:rc D b R5 ρ s=(fun v3=>(some (.normal,[(2,v3)],s):OR)) (get ρ 3):=zr
@[go_sem]theorem agN:rc D b Qo ρ s=(fun v0 v1=>(if V.ok v1 && ay false v1 then let x0:V:=.ptr (St.fresh s false) [] (V.tag v1); let s0:St:=St.new s false v1; some (.normal,[(0,v0),(3,x0)],s0) else none:OR)) (get ρ 0) (get ρ 1):=zr
@[go_sem]theorem ach:rc D b RL ρ s=(fun v0 v3=>(aa (ag v0) fun x0=>aa (ae 43 1 1 x0) fun x1=>aa (ldv s 1 x1) fun x2=>aa (rf D bB [x2] s) fun x3=>aa (aw 0 x3.1) fun x4=>aa (aw 1 x3.1) fun x5=>some (.normal,[(0,v0),(3,v3),(6,x4),(7,x5)],x3.2):OR)) (get ρ 0) (get ρ 3):=zr
@[go_sem]theorem abK:rc D b Qf ρ s=(fun v0 v3 v6 v7=>(aa (ac .neq v7 (.int .i64 0)) fun x0=>some (.normal,[(0,v0),(3,v3),(6,v6),(7,v7),(20,x0)],s):OR)) (get ρ 0) (get ρ 3) (get ρ 6) (get ρ 7):=zr
@[go_sem]theorem agq:rc D b Ox ρ s=(fun v7=>(some (.normal,[(4,(.int .i64 0)),(5,v7)],s):OR)) (get ρ 7):=zr
@[go_sem]theorem afI:rc D b Rc ρ s=(fun v0 v3 v6=>(aa (ldv s 24 v3) fun x0=>some (.normal,[(0,v0),(6,v6),(22,x0),(23,(.int .i64 0))],s):OR)) (get ρ 0) (get ρ 3) (get ρ 6):=zr
@[go_sem]theorem Zd:rc D b R9 ρ s=(fun v0 v6 v22 v23=>(aa (ac .lss v23 (.int .i64 8)) fun x0=>some (.normal,[(0,v0),(6,v6),(22,v22),(23,v23),(24,x0)],s):OR)) (get ρ 0) (get ρ 6) (get ρ 22) (get ρ 23):=zr
@[go_sem]theorem ab1:rc D b O2 ρ s=(fun v0 v6 v22 v23=>(aa (lZ 24 8 v22 v23) fun x0=>some (.normal,[(0,v0),(6,v6),(8,v23),(9,x0),(22,v22),(23,v23)],s):OR)) (get ρ 0) (get ρ 6) (get ρ 22) (get ρ 23):=zr
@[go_sem]theorem Zy:rc D b Qi ρ s=(fun v0 v6 v8 v9 v22 v23=>(aa (ag v0) fun x0=>aa (ae 43 0 1 x0) fun x1=>aa (ldv s 1 x1) fun x2=>aa (rf D dV [x2,v6,v8,v9] s) fun x3=>some (.normal,[(0,v0),(6,v6),(10,x3.1),(22,v22),(23,v23)],x3.2):OR)) (get ρ 0) (get ρ 6) (get ρ 8) (get ρ 9) (get ρ 22) (get ρ 23):=zr
@[go_sem]theorem aiS:rc D b Oo ρ s=(fun v0 v6 v10 v22 v23=>(aa (ac .neq v10 (.int .i64 0)) fun x0=>some (.normal,[(0,v0),(6,v6),(10,v10),(22,v22),(23,v23),(36,x0)],s):OR)) (get ρ 0) (get ρ 6) (get ρ 10) (get ρ 22) (get ρ 23):=zr
@[go_sem]theorem ahV:rc D b PG ρ s=(fun v10=>(some (.normal,[(4,(.int .i64 0)),(5,v10)],s):OR)) (get ρ 10):=zr
@[go_sem]theorem YJ:rc D b Ey ρ s=(fun v0 v6 v22 v23=>(aa (ac .add v23 (.int .i64 1)) fun x0=>some (.normal,[(0,v0),(6,v6),(22,v22),(23,x0)],s):OR)) (get ρ 0) (get ρ 6) (get ρ 22) (get ρ 23):=zr
@[go_sem]theorem XU:rc D b Fl ρ s=(fun v6=>(some (.normal,[(4,v6),(5,(.int .i64 0))],s):OR)) (get ρ 6):=zr
@[go_sem]theorem ae5:rc D b Od ρ s=(fun v0 v1=>(some (.normal,[(0,v0),(1,v1)],s):OR)) (get ρ 0) (get ρ 1):=zr
@[go_sem]theorem air:rc D b PM ρ s=(fun v0 v1=>(aa (ac .lss v1 (.int .i64 0)) fun x0=>some (.normal,[(0,v0),(1,v1),(5,x0)],s):OR)) (get ρ 0) (get ρ 1):=zr
@[go_sem]theorem aau:rc D b IF ρ s=(fun v0 v1=>(aa (ac .geq v1 (.int .i64 49)) fun x0=>some (.normal,[(0,v0),(1,v1),(5,x0)],s):OR)) (get ρ 0) (get ρ 1):=zr
@[go_sem]theorem acK:rc D b RK ρ s= some (.normal,[(4,(.int .i64 1))],s):=zr
@[go_sem]theorem ZC:rc D b M9 ρ s=(fun v0 v1=>(aa (ag v0) fun x0=>aa (ae 43 2 48 x0) fun x1=>aa (bc 48 49 42 x1 v1) fun x2=>aa (ae 42 0 10 x2) fun x3=>aa (ldv s 10 x3) fun x4=>aa (ac .eql x4 (.int .i64 0)) fun x5=>some (.normal,[(10,x5)],s):OR)) (get ρ 0) (get ρ 1):=zr
@[go_sem]theorem aek:rc D b IG ρ s= some (.normal,[(4,(.int .i64 30))],s):=zr
@[go_sem]theorem agz:rc D b HN ρ s= some (.normal,[(4,(.int .i64 0))],s):=zr
@[go_sem]theorem act:rc D b Ru ρ s=(fun v0 v1=>(some (.normal,[(0,v0),(1,v1)],s):OR)) (get ρ 0) (get ρ 1):=zr
@[go_sem]theorem ai1:rc D b Qa ρ s=(fun v0 v1=>(aa (ag v0) fun x0=>aa (ae 43 2 48 x0) fun x1=>aa (bc 48 49 42 x1 v1) fun x2=>aa (ae 42 2 10 x2) fun x3=>aa (ldv s 10 x3) fun x4=>aa (ag v0) fun x5=>aa (ae 43 7 82 x5) fun x6=>aa (bc 82 1024 0 x6 x4) fun x7=>aa (ldv s 0 x7) fun x8=>aa (vun .not x8) fun x9=>some (.normal,[(4,x9)],s):OR)) (get ρ 0) (get ρ 1):=zd
@[go_sem]theorem aan:rc D b JS ρ s=(fun v0 v1 v2 v3=>(some (.normal,[(0,v0),(1,v1),(2,v2),(3,v3)],s):OR)) (get ρ 0) (get ρ 1) (get ρ 2) (get ρ 3):=zr
@[go_sem]theorem aeg:rc D b Ot ρ s=(fun v0 v1 v2 v3=>(aa (rf D fH [v0,v1] s) fun x0=>some (.normal,[(0,v0),(2,v2),(3,v3),(9,x0.1)],x0.2):OR)) (get ρ 0) (get ρ 1) (get ρ 2) (get ρ 3):=zr
@[go_sem]theorem aih:rc D b KO ρ s=(fun v0 v2 v3 v9=>(aa (eqv false 1 v9 .nilp) fun x0=>al x0 false (aa (ac .lss v2 (.int .i64 0)) fun x1=>al x1 false (aa (ac .geq v2 (.int .i64 8)) fun x2=>some (.normal,[(0,v0),(2,v2),(3,v3),(9,v9),(23,x2)],s)) (some (.normal,[(0,v0),(2,v2),(3,v3),(9,v9),(23,(.bool true))],s)) (none)) (some (.normal,[(0,v0),(2,v2),(3,v3),(9,v9),(23,(.bool true))],s)) (none):OR)) (get ρ 0) (get ρ 2) (get ρ 3) (get ρ 9):=zr
@[go_sem]theorem aec:rc D b QR ρ s= some (.normal,[(8,(.int .i64 1))],s):=zr
@[go_sem]theorem ai2:rc D b Qm ρ s=(fun v0 v2 v3 v9=>(aa (rf D ep [v0] s) fun x0=>some (.normal,[(2,v2),(3,v3),(9,v9),(10,x0.1)],x0.2):OR)) (get ρ 0) (get ρ 2) (get ρ 3) (get ρ 9):=zr
@[go_sem]theorem ab9:rc D b Lu ρ s=(fun v2 v3 v9 v10=>(aa (ac .neq v10 (.int .i64 0)) fun x0=>some (.normal,[(2,v2),(3,v3),(9,v9),(10,v10),(27,x0)],s):OR)) (get ρ 2) (get ρ 3) (get ρ 9) (get ρ 10):=zr
@[go_sem]theorem aiI:rc D b KQ ρ s=(fun v10=>(some (.normal,[(8,v10)],s):OR)) (get ρ 10):=zr
@[go_sem]theorem aci:rc D b Om ρ s=(fun v2 v3 v9=>(aa (ag v9) fun x0=>aa (ae 55 0 24 x0) fun x1=>aa (bc 24 8 18 x1 v2) fun x2=>aa (stv b s 18 v3 x2) fun s3=>some (.normal,[(2,v2),(3,v3),(9,v9)],s3):OR)) (get ρ 2) (get ρ 3) (get ρ 9):=zr
@[go_sem]theorem afJ:rc D b IV ρ s=(fun v2 v3 v9=>(aa (ag v9) fun x0=>aa (ae 55 2 1 x0) fun x1=>aa (ldv s 1 x1) fun x2=>aa (am [(.int .i64 0),(.int .u64 0)] [(0,v2),(1,v3)]) fun x3=>aa (kn false 86 84 1 (.agg 84 [(.int .i64 0),(.int .u64 0)]) s [(0,(.agg 84 x3))]) fun x4=>aa (aA b true 86 84 x2 x4.1 x4.2) fun x5=>aa (ag v9) fun x6=>aa (ae 55 2 1 x6) fun x7=>aa (stv b x5.2 1 x5.1 x7) fun s8=>some (.normal,[],s8):OR)) (get ρ 2) (get ρ 3) (get ρ 9):=zr
@[go_sem]theorem Za:rc D b Me ρ s= some (.normal,[(8,(.int .i64 0))],s):=zr
@[go_sem]theorem aen:rc D b Hw ρ s=(fun v0=>(some (.normal,[(0,v0)],s):OR)) (get ρ 0):=zr
@[go_sem]theorem abz:rc D b J0 ρ s=(fun v0=>(some (.normal,[(0,v0),(3,(.int .i64 0))],s):OR)) (get ρ 0):=zr
@[go_sem]theorem aeo:rc D b OH ρ s=(fun v0 v3=>(aa (ag v0) fun x0=>aa (ae 80 2 78 x0) fun x1=>aa (ldv s 78 x1) fun x2=>some (.normal,[(3,v3),(9,x2),(10,(.int .i64 0))],s):OR)) (get ρ 0) (get ρ 3):=zr
@[go_sem]theorem abW:rc D b HV ρ s=(fun v3 v9 v10=>(aa (ac .lss v10 (.int .i64 16)) fun x0=>some (.normal,[(3,v3),(9,v9),(10,v10),(11,x0)],s):OR)) (get ρ 3) (get ρ 9) (get ρ 10):=zr
@[go_sem]theorem ai0:rc D b RO ρ s=(fun v3 v9 v10=>(aa (lZ 78 16 v9 v10) fun x0=>some (.normal,[(3,v3),(5,x0),(9,v9),(10,v10)],s):OR)) (get ρ 3) (get ρ 9) (get ρ 10):=zr
@[go_sem]theorem aaB:rc D b Lp ρ s=(fun v3 v5 v9 v10=>(aa (rf D eL [v5] s) fun x0=>aa (ac .add v3 x0.1) fun x1=>some (.normal,[(3,x1),(9,v9),(10,v10)],x0.2):OR)) (get ρ 3) (get ρ 5) (get ρ 9) (get ρ 10):=zr
@[go_sem]theorem aao:rc D b JF ρ s=(fun v3 v9 v10=>(aa (ac .add v10 (.int .i64 1)) fun x0=>some (.normal,[(3,v3),(9,v9),(10,x0)],s):OR)) (get ρ 3) (get ρ 9) (get ρ 10):=zr
@[go_sem]theorem YQ:rc D b Kw ρ s=(fun v3=>(some (.normal,[(2,v3)],s):OR)) (get ρ 3):=zr
@[go_sem]theorem aba:rc D b IT ρ s=(fun v0 v1 v2 v3=>(some (.normal,[(0,v0),(1,v1),(2,v2),(3,v3)],s):OR)) (get ρ 0) (get ρ 1) (get ρ 2) (get ρ 3):=zr
@[go_sem]theorem abl:rc D b Q2 ρ s=(fun v0 v1 v2 v3=>(aa (ac .lss v1 (.int .i64 0)) fun x0=>al x0 false (aa (ac .geq v1 (.int .i64 49)) fun x1=>al x1 false (aa (ac .lss v2 (.int .i64 0)) fun x2=>al x2 false (aa (ac .gtr v2 (.int .i64 7)) fun x3=>some (.normal,[(0,v0),(1,v1),(2,v2),(3,v3),(25,x3)],s)) (some (.normal,[(0,v0),(1,v1),(2,v2),(3,v3),(25,(.bool true))],s)) (none)) (some (.normal,[(0,v0),(1,v1),(2,v2),(3,v3),(25,(.bool true))],s)) (none)) (some (.normal,[(0,v0),(1,v1),(2,v2),(3,v3),(25,(.bool true))],s)) (none):OR)) (get ρ 0) (get ρ 1) (get ρ 2) (get ρ 3):=zr
@[go_sem]theorem ahP:rc D b OA ρ s= some (.normal,[(8,(.int .i64 1))],s):=zr
@[go_sem]theorem aet:rc D b Kq ρ s=(fun v0 v1 v2 v3=>(aa (ag v0) fun x0=>aa (ae 31 2 48 x0) fun x1=>aa (bc 48 49 42 x1 v1) fun x2=>aa (ae 42 0 10 x2) fun x3=>aa (ldv s 10 x3) fun x4=>aa (ac .eql x4 (.int .i64 0)) fun x5=>some (.normal,[(0,v0),(1,v1),(2,v2),(3,v3),(33,x5)],s):OR)) (get ρ 0) (get ρ 1) (get ρ 2) (get ρ 3):=zr
@[go_sem]theorem afP:rc D b Lq ρ s= some (.normal,[(8,(.int .i64 30))],s):=zr
@[go_sem]theorem aij:rc D b Ig ρ s=(fun v0 v1 v2 v3=>(aa (rf D aZ [v0,v1] s) fun x0=>some (.normal,[(0,v0),(1,v1),(2,v2),(3,v3),(36,x0.1)],x0.2):OR)) (get ρ 0) (get ρ 1) (get ρ 2) (get ρ 3):=zr
@[go_sem]theorem aaF:rc D b Iv ρ s=(fun v0 v1 v2 v3=>(aa (ag v0) fun x0=>aa (ae 31 0 1 x0) fun x1=>aa (ldv s 1 x1) fun x2=>aa (ag v0) fun x3=>aa (ae 31 2 48 x3) fun x4=>aa (bc 48 49 42 x4 v1) fun x5=>aa (ae 42 2 10 x5) fun x6=>aa (ldv s 10 x6) fun x7=>aa (rf D bn [x2,x7,v2,v3] s) fun x8=>some (.normal,[(8,x8.1)],x8.2):OR)) (get ρ 0) (get ρ 1) (get ρ 2) (get ρ 3):=zd
@[go_sem]theorem aie:rc D b Q4 ρ s=(fun v0 v1 v2 v3=>(aa (ag v0) fun x0=>aa (ae 31 1 1 x0) fun x1=>aa (ldv s 1 x1) fun x2=>aa (rf D aI [x2] s) fun x3=>aa (ac .eql x3.1 (.int .i64 0)) fun x4=>some (.normal,[(0,v0),(1,v1),(2,v2),(3,v3),(56,x4)],x3.2):OR)) (get ρ 0) (get ρ 1) (get ρ 2) (get ρ 3):=zr
@[go_sem]theorem afY:rc D b Pr ρ s= some (.normal,[(8,(.int .i64 10))],s):=zr
@[go_sem]theorem aeO:rc D b Sb ρ s=(fun v0 v1 v2 v3=>(aa (ag v0) fun x0=>aa (ae 31 0 1 x0) fun x1=>aa (ldv s 1 x1) fun x2=>aa (ag v0) fun x3=>aa (ae 31 2 48 x3) fun x4=>aa (bc 48 49 42 x4 v1) fun x5=>aa (ae 42 2 10 x5) fun x6=>aa (ldv s 10 x6) fun x7=>aa (dj D (aV b [x2,x7]) b aW [x2,x7] s) fun x8=>aa (aw 0 x8) fun x9=>aa (aw 1 x8) fun x10=>let x11:V:=.ptr (St.fresh s false) [] 24; let s11:St:=St.new s false (.agg 24 (List.replicate 8 (.int .u64 0))); aa (stv b s11 24 x9 x11) fun s12=>some (.normal,[(0,v0),(1,v1),(2,v2),(3,v3),(9,x11),(10,x10)],s12):OR)) (get ρ 0) (get ρ 1) (get ρ 2) (get ρ 3):=zd
@[go_sem]theorem XG:rc D b Dg ρ s=(fun v0 v1 v2 v3 v9 v10=>(aa (ac .neq v10 (.int .i64 0)) fun x0=>some (.normal,[(0,v0),(1,v1),(2,v2),(3,v3),(9,v9),(10,v10),(73,x0)],s):OR)) (get ρ 0) (get ρ 1) (get ρ 2) (get ρ 3) (get ρ 9) (get ρ 10):=zr
@[go_sem]theorem YA:rc D b CW ρ s=(fun v10=>(some (.normal,[(8,v10)],s):OR)) (get ρ 10):=zr
@[go_sem]theorem Xx:rc D b CY ρ s=(fun v0 v1 v2 v3 v9=>(aa (bc 24 8 18 v9 v2) fun x0=>aa (stv b s 18 v3 x0) fun s1=>some (.normal,[(0,v0),(1,v1),(9,v9)],s1):OR)) (get ρ 0) (get ρ 1) (get ρ 2) (get ρ 3) (get ρ 9):=zr
@[go_sem]theorem YC:rc D b Dt ρ s=(fun v0 v1 v9=>(aa (ldv s 24 v9) fun x0=>aa (rf D bI [v0,x0] s) fun x1=>aa (aw 0 x1.1) fun x2=>aa (aw 1 x1.1) fun x3=>some (.normal,[(0,v0),(1,v1),(10,x3),(11,x2)],x1.2):OR)) (get ρ 0) (get ρ 1) (get ρ 9):=zr
@[go_sem]theorem YH:rc D b El ρ s=(fun v0 v1 v10 v11=>(aa (ac .eql v10 (.int .i64 0)) fun x0=>some (.normal,[(0,v0),(1,v1),(10,v10),(11,v11),(85,x0)],s):OR)) (get ρ 0) (get ρ 1) (get ρ 10) (get ρ 11):=zr
@[go_sem]theorem YF:rc D b E9 ρ s=(fun v0 v1 v10 v11=>(aa (ag v0) fun x0=>aa (ae 31 2 48 x0) fun x1=>aa (bc 48 49 42 x1 v1) fun x2=>aa (ae 42 2 10 x2) fun x3=>aa (stv b s 10 v11 x3) fun s4=>some (.normal,[(10,v10)],s4):OR)) (get ρ 0) (get ρ 1) (get ρ 10) (get ρ 11):=zr
@[go_sem]theorem Ym:rc D b DP ρ s=(fun v10=>(some (.normal,[(8,v10)],s):OR)) (get ρ 10):=zr
@[go_sem]theorem afE:rc D b LM ρ s=(fun v0 v1=>(some (.normal,[(0,v0),(1,v1)],s):OR)) (get ρ 0) (get ρ 1):=zr
@[go_sem]theorem agG:rc D b Ia ρ s=(fun v0 v1=>(aa (rf D bA [v0,v1] s) fun x0=>aa (aw 0 x0.1) fun x1=>aa (aw 1 x0.1) fun x2=>aa (aw 2 x0.1) fun x3=>some (.normal,[(0,v0),(1,v1),(6,x1),(7,x2),(8,x3)],x0.2):OR)) (get ρ 0) (get ρ 1):=zr
@[go_sem]theorem aft:rc D b N2 ρ s=(fun v0 v1 v6 v7 v8=>(aa (ac .neq v8 (.int .i64 0)) fun x0=>some (.normal,[(0,v0),(1,v1),(6,v6),(7,v7),(8,v8),(18,x0)],s):OR)) (get ρ 0) (get ρ 1) (get ρ 6) (get ρ 7) (get ρ 8):=zr
@[go_sem]theorem acn:rc D b KH ρ s=(fun v8=>(some (.normal,[(4,(.int .i64 0)),(5,v8)],s):OR)) (get ρ 8):=zr
@[go_sem]theorem aaN:rc D b J4 ρ s=(fun v0 v1 v6 v7=>(aa (am (List.replicate 8 (.int .u64 0)) []) fun x0=>aa (rf D bI [v0,(.agg 24 x0)] s) fun x1=>aa (aw 0 x1.1) fun x2=>aa (aw 1 x1.1) fun x3=>some (.normal,[(0,v0),(1,v1),(6,v6),(7,v7),(8,x3),(9,x2)],x1.2):OR)) (get ρ 0) (get ρ 1) (get ρ 6) (get ρ 7):=zr
@[go_sem]theorem aiP:rc D b Jr ρ s=(fun v0 v1 v6 v7 v8 v9=>(aa (ac .neq v8 (.int .i64 0)) fun x0=>some (.normal,[(0,v0),(1,v1),(6,v6),(7,v7),(8,v8),(9,v9),(27,x0)],s):OR)) (get ρ 0) (get ρ 1) (get ρ 6) (get ρ 7) (get ρ 8) (get ρ 9):=zr
end
end Go.Proofs.YtnffmibpblibdaaGreatDoor
