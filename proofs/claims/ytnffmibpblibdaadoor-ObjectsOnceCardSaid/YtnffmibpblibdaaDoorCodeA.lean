/-
  YtnffmibpblibdaaDoorCode: the code of the functions that this seat's laws reach, in the form of Ab1 (printed by a program out of the translation; held against it in YtnffmibpblibdaaDoorChk).
-/
import Derived.Test.YtnffmibpblibdaaDoorAbG
import Derived.KernelRfl
set_option maxRecDepth 100000
namespace Go.Proofs.YtnffmibpblibdaaDoor
open Go.Ab
noncomputable section
variable {b : Nat} {ρ : Env} {s : St}
def glob_0 : V := .ptr (.hp 0) [] 108
@[go_sem] theorem glob_0_eq : glob_0 = .ptr (.hp 0) [] 108 := nd rfl
def tabl_0 : List Int := [0, 1, 56, 2, 57, 49, 28, 3, 61, 58, 42, 50, 38, 29, 17, 4, 62, 47, 59, 36, 45, 43, 51, 22, 53, 39, 33, 30, 24, 18, 12, 5, 63, 55, 48, 27, 60, 41, 37, 16, 46, 35, 44, 21, 52, 32, 23, 11, 54, 26, 40, 15, 34, 20, 31, 10, 25, 14, 19, 9, 13, 8, 7, 6]
def globV_0 : V := .agg 108 (tabl_0.map (.int .u8))
/-- The variables of the program that the laws read. -/
def G : List Blk := [.ro globV_0]
/-! The functions' numbers. -/
def f_steadfastlaw10_ObjectsOf : Nat := 3
def f_steadfastlaw10_ObjectsOnce : Nat := 4
def f_steadfastlaw10_ObjectsRoom : Nat := 5
def f_steadfastlaw10_ObjectsKeep : Nat := 6
def f_steadfastlaw10_ObjectsAgain : Nat := 7
def f_steadfastlaw10_ObjectsFree : Nat := 8
def f_steadfastlaw10_shown : Nat := 9
def f_nvm_New : Nat := 10
def f_steadfastref03_New : Nat := 11
def f_objects_Of : Nat := 12
def f_steadfastref10_Of : Nat := 13
def f_steadfastlaw10_like : Nat := 14
def f_steadfastlaw10_table : Nat := 15
def f_steadfastlaw10_dir : Nat := 16
def f_steadfastlaw10_kind : Nat := 17
def f_objects_Store_Left : Nat := 18
def f_objects_Store_Set : Nat := 19
def f_objects_Store_Get : Nat := 20
def f_objects_Store_Table : Nat := 21
def f_objects_Store_Mark : Nat := 22
def f_objects_Store_Take : Nat := 23
def f_objects_Store_Room : Nat := 24
def f_objects_Store_Make : Nat := 25
def f_objects_Store_End : Nat := 26
def f_nvm_Memory_Load : Nat := 27
def f_objects_Store_Base : Nat := 28
def f_objects_Store_Marked : Nat := 29
def f_objects_Store_Names : Nat := 30
def f_caps_Word : Nat := 31
def f_objects_Store_Commit : Nat := 32
def f_objects_Store_Abort : Nat := 33
def f_objects_Store_Next : Nat := 34
def f_steadfastref03_Of : Nat := 35
def f_frames_New : Nat := 36
def f_nvm_Memory_Lines : Nat := 37
def f_frames_Frames_Take : Nat := 38
def f_objects_Store_share : Nat := 39
def f_steadfastref04_New : Nat := 40
def f_steadfastref10_lines : Nat := 41
def f_steadfastref04_Frames_Take : Nat := 42
def f_steadfastref04_Frames_Left : Nat := 43
def f_frames_Frames_Left : Nat := 44
def f_objects_Store_is : Nat := 45
def f_objects_Store_own : Nat := 46
def f_nvm_Memory_Store : Nat := 47
def f_objects_Store_lay : Nat := 48
def f_frames_Frames_Alloc : Nat := 49
def f_frames_Frames_Free : Nat := 50
def f_entry_End : Nat := 51
def f_nvm_Memory_at : Nat := 52
def f_caps_Of : Nat := 53
def f_entry_Names : Nat := 54
def f_caps_may : Nat := 55
def f_objects_Store_unmark : Nat := 56
def f_entry_Open : Nat := 57
def f_frames_set_turn : Nat := 58
def f_frames_Frames_in : Nat := 59
def f_objects_lines_add : Nat := 60
def f_steadfastref04_Frames_turn : Nat := 61
def f_math_bits_OnesCount64 : Nat := 62
def f_nvm_Memory_step : Nat := 63
def f_math_bits_TrailingZeros64 : Nat := 64
def f_caps_within : Nat := 65
def f_frames_Frames_State : Nat := 66
def f_frames_Frames_Later : Nat := 67
def f_frames_Frames_Settle : Nat := 68
def f_steadfastref04_Frames_State : Nat := 69
def f_frames_set_has : Nat := 70
def c3_0 : C := .reg (some [2, 3, 4]) [zq 3 (.box false 0),
zq 4 (.box false 1),
zq 6 (.mv (.k (.bool false)))]
def c3_1 : C := .reg (some [2, 3, 4, 7]) [zq 16 (.call (zf f_steadfastlaw10_shown) []),
zq 7 (.mv 16)]
def c3_2 : C := .reg (some [2, 3, 4, 7, 8]) [zq 18 (.call (zf f_nvm_New) [(zi 100)]),
zq 17 (.mv 18),
zq 19 (.ext 17 0),
zq 20 (.ext 17 1),
zq 8 (.mv 19),
zq 9 (.mv 20)]
def c3_3 : C := .reg (some [2, 3, 4, 7, 8, 10]) [zq 22 (.call (zf f_steadfastref03_New) [(zi 100)]),
zq 21 (.mv 22),
zq 23 (.ext 21 0),
zq 24 (.ext 21 1),
zq 10 (.mv 23),
zq 11 (.mv 24)]
def c3_4 : C := .reg (some [2, 3, 4, 8, 10, 30]) [zq 25 (.mv 7),
zq 26 (.un .not 25),
zq 27 (.mv 26),
zg 28 27 false (.mv 8),
zg 29 27 false (.eq false 1 28 (.k .nilp)),
zq 30 (.pick 27 (.k (.bool true)) 29)]
def c3_5 : C := .reg (some [6]) [zq 6 (.mv (.k (.bool false)))]
def c3_6 : C := .reg (some [2, 3, 4, 10, 12, 13]) [zq 32 (.mv 8),
zq 33 (.mv 2),
zq 34 (.ld 48 3),
zq 35 (.ld 50 4),
zq 36 (.call (zf f_objects_Of) [32, 33, 34, 35]),
zq 31 (.mv 36),
zq 37 (.ext 31 0),
zq 38 (.ext 31 1),
zq 12 (.mv 37),
zq 13 (.mv 38)]
def c3_7 : C := .reg (some [12, 13, 14, 15]) [zq 40 (.mv 10),
zq 41 (.mv 2),
zq 42 (.ld 48 3),
zq 43 (.ld 50 4),
zq 44 (.call (zf f_steadfastref10_Of) [40, 41, 42, 43]),
zq 39 (.mv 44),
zq 45 (.ext 39 0),
zq 46 (.ext 39 1),
zq 14 (.mv 45),
zq 15 (.mv 46)]
def c3_8 : C := .reg (some [12, 14, 56]) [zq 47 (.mv 13),
zq 48 (.mv 15),
zq 49 (.bin .neq 47 48),
zq 50 (.mv 49),
zg 51 50 false (.mv 12),
zg 52 50 false (.eq false 1 51 (.k .nilp)),
zg 53 50 false (.mv 13),
zg 54 50 false (.bin .neq 53 (zi 0)),
zg 55 50 false (.eq true 0 52 54),
zq 56 (.pick 50 (.k (.bool true)) 55)]
def c3_9 : C := .reg (some [6]) [zq 6 (.mv (.k (.bool false)))]
def c3_10 : C := .reg (some [6]) [zq 57 (.mv 12),
zq 58 (.eq false 1 57 (.k .nilp)),
zq 59 (.mv 58),
zg 60 59 false (.mv 12),
zg 61 59 false (.mv 14),
zg 62 59 false (.call (zf f_steadfastlaw10_like) [60, 61]),
zq 63 (.pick 59 (.k (.bool true)) 62),
zq 6 (.mv 63)]
/-- steadfast/steadfastlaw10.ObjectsOf -/
@[go_sem] def fc_steadfastlaw10_ObjectsOf : Fc := ⟨3,
  .seq (c3_0) (
  .seq (c3_1) (
  .seq (c3_2) (
  .seq (c3_3) (
  .seq (.seq (c3_4) (
  .cond (.t 30) (
    .seq (c3_5) (
    .ret)) (
    .skip))) (
  .seq (c3_6) (
  .seq (c3_7) (
  .seq (.seq (c3_8) (
  .cond (.t 56) (
    .seq (c3_9) (
    .ret)) (
    .skip))) (
  .seq (c3_10) (
  .ret))))))))),
  [.t 6]⟩
def c4_0 : C := .reg (some [0, 1]) [zq 4 (.mv (.k (.bool false)))]
def c4_1 : C := .reg (some [0, 1, 5]) [zq 20 (.call (zf f_steadfastlaw10_shown) []),
zq 5 (.mv 20)]
def c4_2 : C := .reg (some [0, 1, 5, 6]) [zq 22 (.call (zf f_nvm_New) [(zi 100)]),
zq 21 (.mv 22),
zq 23 (.ext 21 0),
zq 24 (.ext 21 1),
zq 6 (.mv 23),
zq 7 (.mv 24)]
def c4_3 : C := .reg (some [0, 1, 6, 30]) [zq 25 (.mv 5),
zq 26 (.un .not 25),
zq 27 (.mv 26),
zg 28 27 false (.mv 6),
zg 29 27 false (.eq false 1 28 (.k .nilp)),
zq 30 (.pick 27 (.k (.bool true)) 29)]
def c4_4 : C := .reg (some [4]) [zq 4 (.mv (.k (.bool false)))]
def c4_5 : C := .reg (some [0, 1, 8]) [zq 32 (.mv 6),
zq 33 (.call (zf f_steadfastlaw10_table) [(zi 12)]),
zq 34 (.call (zf f_steadfastlaw10_dir) []),
zq 35 (.call (zf f_objects_Of) [32, (zi 10), 33, 34]),
zq 31 (.mv 35),
zq 36 (.ext 31 0),
zq 37 (.ext 31 1),
zq 8 (.mv 36),
zq 9 (.mv 37)]
def c4_6 : C := .reg (some [0, 1, 8, 39]) [zq 38 (.mv 8),
zq 39 (.eq false 1 38 (.k .nilp))]
def c4_7 : C := .reg (some [4]) [zq 4 (.mv (.k (.bool false)))]
def c4_8 : C := .reg (some [1, 8, 10]) [zq 40 (.mv 0),
zq 41 (.call (zf f_steadfastlaw10_kind) [40, (zi 12)]),
zq 10 (.mv 41)]
def c4_9 : C := .reg (some [1, 8, 10, 11]) [zq 42 (.mv 8),
zq 43 (.call (zf f_objects_Store_Left) [42]),
zq 11 (.mv 43)]
def c4_10 : C := .reg (some [1, 8, 10, 11, 12]) [zq 44 (.bld (.agg 24 (List.replicate 8 (.int .u64 0))) []),
zq 12 (.alloc false (.agg 24 (List.replicate 8 (.int .u64 0)))),
zw (.st 24 12 44)]
def c4_11 : C := .reg (some [1, 8, 10, 11, 12, 13]) [zq 13 (.mv (zi 0))]
def c4_12 : C := .reg (some [1, 8, 10, 11, 12, 13, 52]) [zq 45 (.mv 13),
zq 46 (.mv 1),
zq 47 (.len false 46),
zq 48 (.bin .lss 45 47),
zq 49 (.mv 48),
zg 50 49 true (.mv 13),
zg 51 49 true (.bin .lss 50 (zi 20)),
zq 52 (.pick 49 51 (.k (.bool false)))]
def c4_13 : C := .reg (some [1, 8, 10, 11, 12, 13, 71]) [zq 55 (.mv 8),
zq 56 (.mv 10),
zq 57 (.mv 13),
zq 58 (.bin .rem 57 (zi 8)),
zq 59 (.mv 1),
zq 60 (.mv 13),
zq 61 (.sad 18 59 60),
zq 62 (.ld 18 61),
zq 63 (.call (zf f_objects_Store_Set) [55, 56, 58, 62]),
zq 64 (.bin .neq 63 (zi 0)),
zq 65 (.mv 64),
zg 66 65 false (.mv 8),
zg 67 65 false (.call (zf f_objects_Store_Left) [66]),
zg 68 65 false (.mv 11),
zg 69 65 false (.bin .sub 68 (zi 1)),
zg 70 65 false (.bin .neq 67 69),
zq 71 (.pick 65 (.k (.bool true)) 70)]
def c4_14 : C := .reg (some [4]) [zq 4 (.mv (.k (.bool false)))]
def c4_15 : C := .reg (some [1, 8, 10, 11, 12, 13]) [zq 72 (.mv 13),
zq 73 (.bin .rem 72 (zi 8)),
zq 74 (.mv 1),
zq 75 (.mv 13),
zq 76 (.sad 18 74 75),
zq 77 (.ld 18 76),
zq 78 (.iad 24 8 18 12 73),
zw (.st 18 78 77)]
def c4_16 : C := .reg (some [1, 8, 10, 11, 12, 13]) [zq 53 (.mv 13),
zq 54 (.bin .add 53 (zi 1)),
zq 13 (.mv 54)]
def c4_17 : C := .reg (some [8, 10, 12, 14, 15]) [zq 80 (.mv 8),
zq 81 (.mv 10),
zq 82 (.call (zf f_objects_Store_Get) [80, 81]),
zq 79 (.mv 82),
zq 83 (.ext 79 0),
zq 84 (.ext 79 1),
zq 14 (.alloc false (.agg 26 [(.int .i64 0), (.int .i64 0), (.agg 24 (List.replicate 8 (.int .u64 0)))])),
zw (.st 26 14 83),
zq 15 (.mv 84)]
def c4_18 : C := .reg (some [8, 10, 12, 14, 15, 16]) [zq 85 (.mv 8),
zq 86 (.call (zf f_objects_Store_Table) [85]),
zq 16 (.alloc false (.agg 48 (List.replicate 49 (.agg 42 [(.int .i64 0), (.int .i64 0), (.int .i64 0)])))),
zw (.st 48 16 86)]
def c4_19 : C := .reg (some [8, 10, 12, 14, 15, 16, 17]) [zq 87 (.mv 8),
zq 88 (.call (zf f_objects_Store_Mark) [87]),
zq 17 (.mv 88)]
def c4_20 : C := .reg (some [8, 10, 12, 14, 15, 16, 17, 18]) [zq 89 (.mv 8),
zq 90 (.mv 10),
zq 91 (.call (zf f_objects_Store_Set) [89, 90, (zi 0), (.k (.int .u64 5))]),
zq 18 (.mv 91)]
def c4_21 : C := .reg (some [10, 12, 14, 15, 16, 17, 18, 19]) [zq 92 (.mv 8),
zq 93 (.call (zf f_objects_Store_Table) [92]),
zq 19 (.alloc false (.agg 48 (List.replicate 49 (.agg 42 [(.int .i64 0), (.int .i64 0), (.int .i64 0)])))),
zw (.st 48 19 93)]
def c4_22 : C := .regd (some [4]) [zq 94 (.mv 15),
zq 95 (.bin .eql 94 (zi 0)),
zq 96 (.mv 95),
zg 97 96 true (.fad 26 2 24 14),
zg 98 96 true (.ld 24 97),
zg 99 96 true (.ld 24 12),
zg 100 96 true (.eq false 24 98 99),
zq 101 (.pick 96 100 (.k (.bool false))),
zq 102 (.mv 101),
zg 103 102 true (.mv 17),
zg 104 102 true (.bin .eql 103 (zi 0)),
zq 105 (.pick 102 104 (.k (.bool false))),
zq 106 (.mv 105),
zg 107 106 true (.mv 18),
zg 108 106 true (.bin .eql 107 (zi 0)),
zq 109 (.pick 106 108 (.k (.bool false))),
zq 110 (.mv 109),
zg 111 110 true (.mv 10),
zg 112 110 true (.iad 48 49 42 16 111),
zg 113 110 true (.fad 42 2 10 112),
zg 114 110 true (.ld 10 113),
zg 115 110 true (.mv 10),
zg 116 110 true (.iad 48 49 42 19 115),
zg 117 110 true (.fad 42 2 10 116),
zg 118 110 true (.ld 10 117),
zg 119 110 true (.bin .neq 114 118),
zq 120 (.pick 110 119 (.k (.bool false))),
zq 4 (.mv 120)]
def b_steadfastlaw10_ObjectsOnce_0 : C :=
    .seq (.seq (c4_12) (
    .cond (.t 52) (
      .skip) (
      .exit 0))) (
    .seq (.block 1 (
      .seq (.seq (c4_13) (
      .cond (.t 71) (
        .seq (c4_14) (
        .ret)) (
        .skip))) (
      c4_15))) (
    c4_16))
/-- steadfast/steadfastlaw10.ObjectsOnce -/
@[go_sem] def fc_steadfastlaw10_ObjectsOnce : Fc := ⟨2,
  .seq (c4_0) (
  .seq (c4_1) (
  .seq (c4_2) (
  .seq (.seq (c4_3) (
  .cond (.t 30) (
    .seq (c4_4) (
    .ret)) (
    .skip))) (
  .seq (c4_5) (
  .seq (.seq (c4_6) (
  .cond (.t 39) (
    .seq (c4_7) (
    .ret)) (
    .skip))) (
  .seq (c4_8) (
  .seq (c4_9) (
  .seq (c4_10) (
  .seq (.seq (c4_11) (
  .block 0 (
    .loop [1, 8, 10, 11, 12, 13] b_steadfastlaw10_ObjectsOnce_0))) (
  .seq (c4_17) (
  .seq (c4_18) (
  .seq (c4_19) (
  .seq (c4_20) (
  .seq (c4_21) (
  .seq (c4_22) (
  .ret)))))))))))))))),
  [.t 4]⟩
def c5_0 : C := .reg (some [0, 1, 2]) [zq 6 (.mv (.k (.bool false)))]
def c5_1 : C := .reg (some [0, 1, 2, 7]) [zq 21 (.call (zf f_steadfastlaw10_shown) []),
zq 7 (.mv 21)]
def c5_2 : C := .reg (some [0, 1, 2, 7, 8]) [zq 23 (.mv 0),
zq 24 (.call (zf f_steadfastlaw10_kind) [23, (zi 64)]),
zq 25 (.bin .add (zi 64) 24),
zq 26 (.call (zf f_nvm_New) [25]),
zq 22 (.mv 26),
zq 27 (.ext 22 0),
zq 28 (.ext 22 1),
zq 8 (.mv 27),
zq 9 (.mv 28)]
def c5_3 : C := .reg (some [0, 1, 2, 8, 34]) [zq 29 (.mv 7),
zq 30 (.un .not 29),
zq 31 (.mv 30),
zg 32 31 false (.mv 8),
zg 33 31 false (.eq false 1 32 (.k .nilp)),
zq 34 (.pick 31 (.k (.bool true)) 33)]
def c5_4 : C := .reg (some [6]) [zq 6 (.mv (.k (.bool false)))]
def c5_5 : C := .reg (some [0, 1, 2, 10]) [zq 36 (.mv 8),
zq 37 (.call (zf f_steadfastlaw10_table) [(zi 12)]),
zq 38 (.call (zf f_steadfastlaw10_dir) []),
zq 39 (.call (zf f_objects_Of) [36, (zi 10), 37, 38]),
zq 35 (.mv 39),
zq 40 (.ext 35 0),
zq 41 (.ext 35 1),
zq 10 (.mv 40),
zq 11 (.mv 41)]
def c5_6 : C := .reg (some [0, 1, 2, 10, 43]) [zq 42 (.mv 10),
zq 43 (.eq false 1 42 (.k .nilp))]
def c5_7 : C := .reg (some [6]) [zq 6 (.mv (.k (.bool false)))]
def c5_8 : C := .reg (some [0, 1, 2, 10, 48]) [zq 44 (.mv 10),
zq 45 (.call (zf f_objects_Store_Left) [44]),
zq 46 (.mv 0),
zq 47 (.call (zf f_steadfastlaw10_kind) [46, (zi 20)]),
zq 48 (.bin .gtr 45 47)]
def c5_9 : C := .reg (some [0, 1, 2, 10]) [zq 49 (.mv 10),
zq 50 (.call (zf f_objects_Store_Take) [49])]
def c5_10 : C := .reg (some [1, 2, 10, 12]) [zq 51 (.bsl false 38 10 (.int .i64 0) 0 []),
zq 12 (.mv 51)]
def c5_11 : C := .reg (some [1, 2, 10, 12, 13]) [zq 13 (.mv (zi 0))]
def c5_12 : C := .reg (some [1, 2, 10, 12, 13, 59]) [zq 52 (.mv 13),
zq 53 (.mv 1),
zq 54 (.len false 53),
zq 55 (.bin .lss 52 54),
zq 56 (.mv 55),
zg 57 56 true (.mv 13),
zg 58 56 true (.bin .lss 57 (zi 20)),
zq 59 (.pick 56 58 (.k (.bool false)))]
def c5_13 : C := .reg (some [1, 2, 10, 12, 13]) [zq 62 (.mv 12),
zq 63 (.mv 1),
zq 64 (.mv 13),
zq 65 (.sad 10 63 64),
zq 66 (.ld 10 65),
zq 67 (.call (zf f_steadfastlaw10_kind) [66, (zi 12)]),
zq 68 (.bsl false 38 10 (.int .i64 0) 1 [(0, 67)]),
zq 69 (.app true 38 10 62 68),
zq 12 (.mv 69)]
def c5_14 : C := .reg (some [1, 2, 10, 12, 13]) [zq 60 (.mv 13),
zq 61 (.bin .add 60 (zi 1)),
zq 13 (.mv 61)]
def c5_15 : C := .reg (some [10, 12, 14]) [zq 70 (.mv 2),
zq 71 (.call (zf f_steadfastlaw10_kind) [70, (zi 10)]),
zq 14 (.mv 71)]
def c5_16 : C := .reg (some [10, 12, 14, 15]) [zq 72 (.mv 10),
zq 73 (.mv 12),
zq 74 (.mv 14),
zq 75 (.call (zf f_objects_Store_Room) [72, 73, 74]),
zq 15 (.mv 75)]
def c5_17 : C := .reg (some [10, 12, 14, 15, 16]) [zq 16 (.mv (.k (.bool true)))]
def c5_18 : C := .reg (some [10, 12, 14, 15, 16, 17]) [zq 17 (.mv (zi 0))]
def c5_19 : C := .reg (some [10, 12, 14, 15, 16, 17, 79]) [zq 76 (.mv 17),
zq 77 (.mv 12),
zq 78 (.len false 77),
zq 79 (.bin .lss 76 78)]
def c5_20 : C := .reg (some [10, 12, 14, 15, 16, 17]) [zq 82 (.mv 16),
zq 83 (.mv 82),
zg 84 83 true (.mv 10),
zg 85 83 true (.mv 12),
zg 86 83 true (.mv 17),
zg 87 83 true (.sad 10 85 86),
zg 88 83 true (.ld 10 87),
zg 89 83 true (.call (zf f_objects_Store_Set) [84, 88, (zi 0), (.k (.int .u64 1))]),
zg 90 83 true (.bin .eql 89 (zi 0)),
zq 91 (.pick 83 90 (.k (.bool false))),
zq 16 (.mv 91)]
def c5_21 : C := .reg (some [10, 12, 14, 15, 16, 17]) [zq 80 (.mv 17),
zq 81 (.bin .add 80 (zi 1)),
zq 17 (.mv 81)]
def c5_22 : C := .reg (some [10, 14, 15, 16, 18]) [zq 18 (.mv (zi 0))]
def c5_23 : C := .reg (some [10, 14, 15, 16, 18, 94]) [zq 92 (.mv 18),
zq 93 (.mv 14),
zq 94 (.bin .lss 92 93)]
def c5_24 : C := .reg (some [10, 14, 15, 16, 18, 20]) [zq 98 (.mv 10),
zq 99 (.call (zf f_objects_Store_Make) [98, (zi 1)]),
zq 97 (.mv 99),
zq 100 (.ext 97 0),
zq 101 (.ext 97 1),
zq 19 (.mv 100),
zq 20 (.mv 101)]
def c5_25 : C := .reg (some [10, 14, 15, 16, 18]) [zq 102 (.mv 16),
zq 103 (.mv 102),
zg 104 103 true (.mv 20),
zg 105 103 true (.bin .eql 104 (zi 0)),
zq 106 (.pick 103 105 (.k (.bool false))),
zq 16 (.mv 106)]
def c5_26 : C := .reg (some [10, 14, 15, 16, 18]) [zq 95 (.mv 18),
zq 96 (.bin .add 95 (zi 1)),
zq 18 (.mv 96)]
def c5_27 : C := .reg (some [6]) [zq 107 (.mv 15),
zq 108 (.mv 16),
zq 109 (.eq false 0 107 108),
zq 6 (.mv 109)]
def b_steadfastlaw10_ObjectsRoom_0 : C :=
    .seq (.seq (c5_8) (
    .cond (.t 48) (
      .skip) (
      .exit 0))) (
    .block 1 (
      c5_9))
def b_steadfastlaw10_ObjectsRoom_1 : C :=
    .seq (.seq (c5_12) (
    .cond (.t 59) (
      .skip) (
      .exit 2))) (
    .seq (.block 3 (
      c5_13)) (
    c5_14))
def b_steadfastlaw10_ObjectsRoom_2 : C :=
    .seq (.seq (c5_19) (
    .cond (.t 79) (
      .skip) (
      .exit 4))) (
    .seq (.block 5 (
      c5_20)) (
    c5_21))
def b_steadfastlaw10_ObjectsRoom_3 : C :=
    .seq (.seq (c5_23) (
    .cond (.t 94) (
      .skip) (
      .exit 6))) (
    .seq (.block 7 (
      .seq (c5_24) (
      c5_25))) (
    c5_26))
/-- steadfast/steadfastlaw10.ObjectsRoom -/
@[go_sem] def fc_steadfastlaw10_ObjectsRoom : Fc := ⟨3,
  .seq (c5_0) (
  .seq (c5_1) (
  .seq (c5_2) (
  .seq (.seq (c5_3) (
  .cond (.t 34) (
    .seq (c5_4) (
    .ret)) (
    .skip))) (
  .seq (c5_5) (
  .seq (.seq (c5_6) (
  .cond (.t 43) (
    .seq (c5_7) (
    .ret)) (
    .skip))) (
  .seq (.block 0 (
    .loop [0, 1, 2, 10] b_steadfastlaw10_ObjectsRoom_0)) (
  .seq (c5_10) (
  .seq (.seq (c5_11) (
  .block 2 (
    .loop [1, 2, 10, 12, 13] b_steadfastlaw10_ObjectsRoom_1))) (
  .seq (c5_15) (
  .seq (c5_16) (
  .seq (c5_17) (
  .seq (.seq (c5_18) (
  .block 4 (
    .loop [10, 12, 14, 15, 16, 17] b_steadfastlaw10_ObjectsRoom_2))) (
  .seq (.seq (c5_22) (
  .block 6 (
    .loop [10, 14, 15, 16, 18] b_steadfastlaw10_ObjectsRoom_3))) (
  .seq (c5_27) (
  .ret))))))))))))))),
  [.t 6]⟩
def c6_0 : C := .reg (some [0, 1]) [zq 4 (.mv (.k (.bool false)))]
def c6_1 : C := .reg (some [0, 1, 5]) [zq 24 (.call (zf f_steadfastlaw10_shown) []),
zq 5 (.mv 24)]
def c6_2 : C := .reg (some [0, 1, 5, 6]) [zq 26 (.call (zf f_nvm_New) [(zi 100)]),
zq 25 (.mv 26),
zq 27 (.ext 25 0),
zq 28 (.ext 25 1),
zq 6 (.mv 27),
zq 7 (.mv 28)]
def c6_3 : C := .reg (some [0, 1, 6, 34]) [zq 29 (.mv 5),
zq 30 (.un .not 29),
zq 31 (.mv 30),
zg 32 31 false (.mv 6),
zg 33 31 false (.eq false 1 32 (.k .nilp)),
zq 34 (.pick 31 (.k (.bool true)) 33)]
def c6_4 : C := .reg (some [4]) [zq 4 (.mv (.k (.bool false)))]
def c6_5 : C := .reg (some [0, 1, 6, 8]) [zq 36 (.mv 6),
zq 37 (.call (zf f_steadfastlaw10_table) [(zi 12)]),
zq 38 (.call (zf f_steadfastlaw10_dir) []),
zq 39 (.call (zf f_objects_Of) [36, (zi 10), 37, 38]),
zq 35 (.mv 39),
zq 40 (.ext 35 0),
zq 41 (.ext 35 1),
zq 8 (.mv 40),
zq 9 (.mv 41)]
def c6_6 : C := .reg (some [0, 1, 6, 8, 43]) [zq 42 (.mv 8),
zq 43 (.eq false 1 42 (.k .nilp))]
def c6_7 : C := .reg (some [4]) [zq 4 (.mv (.k (.bool false)))]
def c6_8 : C := .reg (some [0, 1, 6, 8, 10]) [zq 44 (.mksl false 58 24 (.agg 24 (List.replicate 8 (.int .u64 0))) (zi 100) (zi 100)),
zq 10 (.mv 44)]
def c6_9 : C := .reg (some [0, 1, 6, 8, 10, 11]) [zq 11 (.mv (.k (.bool false)))]
def c6_10 : C := .reg (some [0, 1, 6, 8, 10, 11, 12]) [zq 12 (.mv (zi 0))]
def c6_11 : C := .reg (some [0, 1, 6, 8, 10, 11, 12, 52]) [zq 45 (.mv 12),
zq 46 (.mv 0),
zq 47 (.len false 46),
zq 48 (.bin .lss 45 47),
zq 49 (.mv 48),
zg 50 49 true (.mv 12),
zg 51 49 true (.bin .lss 50 (zi 80)),
zq 52 (.pick 49 51 (.k (.bool false)))]
def c6_12 : C := .reg (some [0, 1, 6, 8, 10, 11, 12, 13]) [zq 55 (.mv 0),
zq 56 (.mv 12),
zq 57 (.sad 54 55 56),
zq 58 (.ld 54 57),
zq 13 (.alloc false (.agg 54 [(.int .i64 0), (.int .i64 0), (.int .i64 0), (.int .u64 0)])),
zw (.st 54 13 58)]
def c6_13 : C := .reg (some [0, 1, 6, 8, 10, 11, 12, 13, 61]) [zq 59 (.fad 54 0 10 13),
zq 60 (.ld 10 59),
zq 61 (.call (zf f_steadfastlaw10_kind) [60, (zi 3)])]
def c6_14 : C := .reg (some [0, 1, 6, 8, 10, 11, 12, 13, 61, 62]) [zq 63 (.bin .eql 61 (zi 0)),
zq 62 (.mv 63)]
def c6_15 : C := .regd (some [0, 1, 6, 8, 10, 11, 12]) [zq 64 (.mv 8),
zq 65 (.fad 54 1 10 13),
zq 66 (.ld 10 65),
zq 67 (.pcall (zf f_steadfastlaw10_kind) [66, (zi 20)]),
zq 68 (.fad 54 2 10 13),
zq 69 (.ld 10 68),
zq 70 (.pcall (zf f_steadfastlaw10_kind) [69, (zi 8)]),
zq 71 (.fad 54 3 18 13),
zq 72 (.ld 18 71),
zq 73 (.call (zf f_objects_Store_Set) [64, 67, 70, 72])]
def c6_16 : C := .reg (some [0, 1, 6, 8, 10, 11, 12, 13, 61, 74]) [zq 75 (.bin .eql 61 (zi 1)),
zq 74 (.mv 75)]
def c6_17 : C := .reg (some [0, 1, 6, 8, 10, 11, 12]) [zq 76 (.mv 8),
zq 77 (.fad 54 2 10 13),
zq 78 (.ld 10 77),
zq 79 (.call (zf f_steadfastlaw10_kind) [78, (zi 2)]),
zq 80 (.bin .add (zi 1) 79),
zq 81 (.call (zf f_objects_Store_Make) [76, 80])]
def c6_18 : C := .reg (some [0, 1, 6, 8, 10, 11, 12, 13, 82]) [zq 83 (.bin .eql 61 (zi 2)),
zq 82 (.mv 83)]
def c6_19 : C := .reg (some [0, 1, 6, 8, 10, 11, 12]) [zq 84 (.mv 8),
zq 85 (.fad 54 1 10 13),
zq 86 (.ld 10 85),
zq 87 (.call (zf f_steadfastlaw10_kind) [86, (zi 20)]),
zq 88 (.call (zf f_objects_Store_End) [84, 87])]
def c6_20 : C := .reg (some [0, 1, 6, 8, 10, 11, 12, 96]) [zq 89 (.mv 11),
zq 90 (.un .not 89),
zq 91 (.mv 90),
zg 92 91 true (.mv 12),
zg 93 91 true (.mv 1),
zg 94 91 true (.call (zf f_steadfastlaw10_kind) [93, (zi 80)]),
zg 95 91 true (.bin .eql 92 94),
zq 96 (.pick 91 95 (.k (.bool false)))]
def c6_21 : C := .reg (some [0, 1, 6, 8, 10, 11, 12]) [zq 11 (.mv (.k (.bool true)))]
def c6_22 : C := .reg (some [0, 1, 6, 8, 10, 11, 12, 99]) [zq 97 (.mv 8),
zq 98 (.call (zf f_objects_Store_Mark) [97]),
zq 99 (.bin .neq 98 (zi 0))]
def c6_23 : C := .reg (some [4]) [zq 4 (.mv (.k (.bool false)))]
def c6_24 : C := .reg (some [0, 1, 6, 8, 10, 11, 12, 14]) [zq 14 (.mv (zi 0))]
def c6_25 : C := .reg (some [0, 1, 6, 8, 10, 11, 12, 14, 101]) [zq 100 (.mv 14),
zq 101 (.bin .lss 100 (zi 100))]
def c6_26 : C := .reg (some [0, 1, 6, 8, 10, 11, 12, 14]) [zq 105 (.mv 10),
zq 106 (.mv 14),
zq 107 (.mv 6),
zq 108 (.mv 14),
zq 109 (.call (zf f_nvm_Memory_Load) [107, 108]),
zq 104 (.mv 109),
zq 110 (.ext 104 0),
zq 111 (.ext 104 1),
zq 112 (.sad 24 105 106),
zw (.st 24 112 110)]
def c6_27 : C := .reg (some [0, 1, 6, 8, 10, 11, 12, 14]) [zq 102 (.mv 14),
zq 103 (.bin .add 102 (zi 1)),
zq 14 (.mv 103)]
def c6_28 : C := .reg (some [0, 1, 6, 8, 10, 11, 12]) [zq 53 (.mv 12),
zq 54 (.bin .add 53 (zi 1)),
zq 12 (.mv 54)]
def c6_29 : C := .reg (some [6, 8, 10, 11, 15]) [zq 114 (.mv 8),
zq 115 (.call (zf f_objects_Store_Base) [114]),
zq 113 (.mv 115),
zq 116 (.ext 113 0),
zq 117 (.ext 113 1),
zq 15 (.alloc false (.agg 48 (List.replicate 49 (.agg 42 [(.int .i64 0), (.int .i64 0), (.int .i64 0)])))),
zq 16 (.alloc false (.agg 50 (List.replicate 8 (.int .i64 0)))),
zw (.st 48 15 116),
zw (.st 50 16 117)]
def c6_30 : C := .reg (some [6, 10, 11, 15, 17, 18]) [zq 119 (.mv 8),
zq 120 (.call (zf f_objects_Store_Marked) [119]),
zq 118 (.mv 120),
zq 121 (.ext 118 0),
zq 122 (.ext 118 1),
zq 17 (.alloc false (.agg 48 (List.replicate 49 (.agg 42 [(.int .i64 0), (.int .i64 0), (.int .i64 0)])))),
zw (.st 48 17 121),
zq 18 (.mv 122)]
def c6_31 : C := .reg (some [6, 10, 15, 17, 18, 125]) [zq 123 (.mv 18),
zq 124 (.mv 11),
zq 125 (.eq true 0 123 124)]
def c6_32 : C := .reg (some [4]) [zq 4 (.mv (.k (.bool false)))]
def c6_33 : C := .reg (some [6, 10, 15, 17, 18, 19]) [zq 19 (.mv (zi 0))]
def c6_34 : C := .reg (some [6, 10, 15, 17, 18, 19, 127]) [zq 126 (.mv 19),
zq 127 (.bin .lss 126 (zi 49))]
def c6_35 : C := .reg (some [6, 10, 15, 17, 18, 19, 20]) [zq 131 (.mv 6),
zq 132 (.mv 19),
zq 133 (.iad 48 49 42 15 132),
zq 134 (.fad 42 2 10 133),
zq 135 (.ld 10 134),
zq 136 (.call (zf f_nvm_Memory_Load) [131, 135]),
zq 130 (.mv 136),
zq 137 (.ext 130 0),
zq 138 (.ext 130 1),
zq 20 (.alloc false (.agg 24 (List.replicate 8 (.int .u64 0)))),
zw (.st 24 20 137),
zq 21 (.mv 138)]
def c6_36 : C := .reg (some [6, 10, 15, 17, 18, 19, 148]) [zq 139 (.mv 19),
zq 140 (.iad 48 49 42 15 139),
zq 141 (.fad 42 0 10 140),
zq 142 (.ld 10 141),
zq 143 (.bin .neq 142 (zi 0)),
zq 144 (.mv 143),
zg 145 144 true (.ld 24 20),
zg 146 144 true (.bld (.agg 24 (List.replicate 8 (.int .u64 0))) []),
zg 147 144 true (.eq true 24 145 146),
zq 148 (.pick 144 147 (.k (.bool false)))]
def c6_37 : C := .reg (some [4]) [zq 4 (.mv (.k (.bool false)))]
def c6_38 : C := .reg (some [6, 10, 15, 17, 18, 19, 22]) [zq 150 (.mv 6),
zq 151 (.mv 19),
zq 152 (.iad 48 49 42 17 151),
zq 153 (.fad 42 2 10 152),
zq 154 (.ld 10 153),
zq 155 (.call (zf f_nvm_Memory_Load) [150, 154]),
zq 149 (.mv 155),
zq 156 (.ext 149 0),
zq 157 (.ext 149 1),
zq 22 (.alloc false (.agg 24 (List.replicate 8 (.int .u64 0)))),
zw (.st 24 22 156),
zq 23 (.mv 157)]
def c6_39 : C := .regd (some [6, 10, 15, 17, 18, 19, 176]) [zq 158 (.mv 18),
zq 159 (.mv 158),
zg 160 159 true (.mv 19),
zg 161 159 true (.iad 48 49 42 17 160),
zg 162 159 true (.fad 42 0 10 161),
zg 163 159 true (.ld 10 162),
zg 164 159 true (.bin .neq 163 (zi 0)),
zq 165 (.pick 159 164 (.k (.bool false))),
zq 166 (.mv 165),
zg 167 166 true (.ld 24 22),
zg 168 166 true (.mv 10),
zg 169 166 true (.mv 19),
zg 170 166 true (.iad 48 49 42 17 169),
zg 171 166 true (.fad 42 2 10 170),
zg 172 166 true (.ld 10 171),
zg 173 166 true (.sad 24 168 172),
zg 174 166 true (.ld 24 173),
zg 175 166 true (.eq true 24 167 174),
zq 176 (.pick 166 175 (.k (.bool false)))]
def c6_40 : C := .reg (some [4]) [zq 4 (.mv (.k (.bool false)))]
def c6_41 : C := .reg (some [6, 10, 15, 17, 18, 19]) [zq 128 (.mv 19),
zq 129 (.bin .add 128 (zi 1)),
zq 19 (.mv 129)]
def c6_42 : C := .reg (some [4]) [zq 4 (.mv (.k (.bool true)))]
def b_steadfastlaw10_ObjectsKeep_1 : C :=
    .seq (.seq (c6_25) (
    .cond (.t 101) (
      .skip) (
      .exit 3))) (
    .seq (.block 4 (
      c6_26)) (
    c6_27))
def b_steadfastlaw10_ObjectsKeep_0 : C :=
    .seq (.seq (c6_11) (
    .cond (.t 52) (
      .skip) (
      .exit 0))) (
    .seq (.block 1 (
      .seq (c6_12) (
      .seq (.seq (c6_13) (
      .block 2 (
        .seq (c6_14) (
        .cond (.t 62) (
          c6_15) (
          .seq (c6_16) (
          .cond (.t 74) (
            c6_17) (
            .seq (c6_18) (
            .cond (.t 82) (
              c6_19) (
              .skip))))))))) (
      .seq (c6_20) (
      .cond (.t 96) (
        .seq (c6_21) (
        .seq (.seq (c6_22) (
        .cond (.t 99) (
          .seq (c6_23) (
          .ret)) (
          .skip))) (
        .seq (c6_24) (
        .block 3 (
          .loop [0, 1, 6, 8, 10, 11, 12, 14] b_steadfastlaw10_ObjectsKeep_1))))) (
        .skip)))))) (
    c6_28))
def b_steadfastlaw10_ObjectsKeep_2 : C :=
    .seq (.seq (c6_34) (
    .cond (.t 127) (
      .skip) (
      .exit 5))) (
    .seq (.block 6 (
      .seq (c6_35) (
      .seq (.seq (c6_36) (
      .cond (.t 148) (
        .seq (c6_37) (
        .ret)) (
        .skip))) (
      .seq (c6_38) (
      .seq (c6_39) (
      .cond (.t 176) (
        .seq (c6_40) (
        .ret)) (
        .skip))))))) (
    c6_41))
/-- steadfast/steadfastlaw10.ObjectsKeep -/
@[go_sem] def fc_steadfastlaw10_ObjectsKeep : Fc := ⟨2,
  .seq (c6_0) (
  .seq (c6_1) (
  .seq (c6_2) (
  .seq (.seq (c6_3) (
  .cond (.t 34) (
    .seq (c6_4) (
    .ret)) (
    .skip))) (
  .seq (c6_5) (
  .seq (.seq (c6_6) (
  .cond (.t 43) (
    .seq (c6_7) (
    .ret)) (
    .skip))) (
  .seq (c6_8) (
  .seq (c6_9) (
  .seq (.seq (c6_10) (
  .block 0 (
    .loop [0, 1, 6, 8, 10, 11, 12] b_steadfastlaw10_ObjectsKeep_0))) (
  .seq (c6_29) (
  .seq (c6_30) (
  .seq (.seq (c6_31) (
  .cond (.t 125) (
    .seq (c6_32) (
    .ret)) (
    .skip))) (
  .seq (.seq (c6_33) (
  .block 5 (
    .loop [6, 10, 15, 17, 18, 19] b_steadfastlaw10_ObjectsKeep_2))) (
  .seq (c6_42) (
  .ret)))))))))))))),
  [.t 4]⟩
def c7_0 : C := .reg (some [0, 1]) [zq 4 (.mv (.k (.bool false)))]
def c7_1 : C := .reg (some [0, 1, 5]) [zq 23 (.call (zf f_steadfastlaw10_shown) []),
zq 5 (.mv 23)]
def c7_2 : C := .reg (some [0, 1, 5, 6]) [zq 25 (.call (zf f_nvm_New) [(zi 100)]),
zq 24 (.mv 25),
zq 26 (.ext 24 0),
zq 27 (.ext 24 1),
zq 6 (.mv 26),
zq 7 (.mv 27)]
def c7_3 : C := .reg (some [0, 1, 6, 33]) [zq 28 (.mv 5),
zq 29 (.un .not 28),
zq 30 (.mv 29),
zg 31 30 false (.mv 6),
zg 32 30 false (.eq false 1 31 (.k .nilp)),
zq 33 (.pick 30 (.k (.bool true)) 32)]
def c7_4 : C := .reg (some [4]) [zq 4 (.mv (.k (.bool false)))]
def c7_5 : C := .reg (some [0, 1, 8]) [zq 35 (.mv 6),
zq 36 (.call (zf f_steadfastlaw10_table) [(zi 0)]),
zq 37 (.call (zf f_steadfastlaw10_dir) []),
zq 38 (.call (zf f_objects_Of) [35, (zi 10), 36, 37]),
zq 34 (.mv 38),
zq 39 (.ext 34 0),
zq 40 (.ext 34 1),
zq 8 (.mv 39),
zq 9 (.mv 40)]
def c7_6 : C := .reg (some [0, 1, 8, 42]) [zq 41 (.mv 8),
zq 42 (.eq false 1 41 (.k .nilp))]
def c7_7 : C := .reg (some [4]) [zq 4 (.mv (.k (.bool false)))]
def c7_8 : C := .reg (some [1, 8, 10]) [zq 43 (.bsl false 38 10 (.int .i64 0) 3 [(0, (zi 1)), (1, (zi 2)), (2, (zi 4))]),
zq 44 (.mv 0),
zq 45 (.call (zf f_steadfastlaw10_kind) [44, (zi 3)]),
zq 46 (.sad 10 43 45),
zq 47 (.ld 10 46),
zq 10 (.mv 47)]
def c7_9 : C := .reg (some [1, 8, 10, 11]) [zq 11 (.mv (.k (.int .u64 0)))]
def c7_10 : C := .reg (some [1, 8, 10, 11, 12]) [zq 12 (.mv (zi 0))]
def c7_11 : C := .reg (some [1, 8, 10, 11, 12, 51]) [zq 48 (.mv 12),
zq 49 (.mv 1),
zq 50 (.call (zf f_steadfastlaw10_kind) [49, (zi 21)]),
zq 51 (.bin .lss 48 50)]
def c7_12 : C := .reg (some [1, 8, 10, 11, 12, 13, 14]) [zq 55 (.mv 8),
zq 56 (.mv 10),
zq 57 (.call (zf f_objects_Store_Make) [55, 56]),
zq 54 (.mv 57),
zq 58 (.ext 54 0),
zq 59 (.ext 54 1),
zq 13 (.mv 58),
zq 14 (.mv 59)]
def c7_13 : C := .reg (some [1, 8, 10, 11, 12, 13, 14, 15, 16]) [zq 61 (.mv 8),
zq 62 (.call (zf f_objects_Store_Get) [61, (zi 0)]),
zq 60 (.mv 62),
zq 63 (.ext 60 0),
zq 64 (.ext 60 1),
zq 15 (.alloc false (.agg 26 [(.int .i64 0), (.int .i64 0), (.agg 24 (List.replicate 8 (.int .u64 0)))])),
zw (.st 26 15 63),
zq 16 (.mv 64)]
def c7_14 : C := .reg (some [1, 8, 10, 11, 12, 86]) [zq 65 (.mv 13),
zq 66 (.bin .neq 65 (zi 0)),
zq 67 (.mv 66),
zg 68 67 false (.mv 14),
zg 69 67 false (.bin .neq 68 (zi 0)),
zq 70 (.pick 67 (.k (.bool true)) 69),
zq 71 (.mv 70),
zg 72 71 false (.mv 16),
zg 73 71 false (.bin .neq 72 (zi 0)),
zq 74 (.pick 71 (.k (.bool true)) 73),
zq 75 (.mv 74),
zg 76 75 false (.fad 26 2 24 15),
zg 77 75 false (.ld 24 76),
zg 78 75 false (.bld (.agg 24 (List.replicate 8 (.int .u64 0))) []),
zg 79 75 false (.eq true 24 77 78),
zq 80 (.pick 75 (.k (.bool true)) 79),
zq 81 (.mv 80),
zg 82 81 false (.fad 26 1 10 15),
zg 83 81 false (.ld 10 82),
zg 84 81 false (.mv 12),
zg 85 81 false (.bin .neq 83 84),
zq 86 (.pick 81 (.k (.bool true)) 85)]
def c7_15 : C := .reg (some [4]) [zq 4 (.mv (.k (.bool false)))]
def c7_16 : C := .reg (some [1, 8, 10, 12, 18]) [zq 88 (.mv 8),
zq 89 (.mv 11),
zq 90 (.call (zf f_objects_Store_Names) [88, 89]),
zq 87 (.mv 90),
zq 91 (.ext 87 0),
zq 92 (.ext 87 1),
zq 17 (.mv 91),
zq 18 (.mv 92)]
def c7_17 : C := .reg (some [1, 8, 10, 12, 18, 19]) [zq 94 (.mv 10),
zq 95 (.mv 12),
zq 96 (.bld (.agg 40 [(.int .i64 0), (.int .i64 0), (.int .i64 0), (.int .i64 0), (.int .i64 0)]) [(0, 94), (3, 95)]),
zq 97 (.call (zf f_caps_Word) [96]),
zq 93 (.mv 97),
zq 98 (.ext 93 0),
zq 99 (.ext 93 1),
zq 19 (.mv 98),
zq 20 (.mv 99)]
def c7_18 : C := .reg (some [1, 8, 10, 12, 18, 19, 21, 22]) [zq 101 (.mv 8),
zq 102 (.mv 19),
zq 103 (.call (zf f_objects_Store_Names) [101, 102]),
zq 100 (.mv 103),
zq 104 (.ext 100 0),
zq 105 (.ext 100 1),
zq 21 (.mv 104),
zq 22 (.mv 105)]
def c7_19 : C := .reg (some [1, 8, 10, 12, 19, 115]) [zq 106 (.mv 18),
zq 107 (.bin .eql 106 (zi 0)),
zq 108 (.mv 107),
zg 109 108 false (.mv 21),
zg 110 108 false (.bin .neq 109 (zi 0)),
zq 111 (.pick 108 (.k (.bool true)) 110),
zq 112 (.mv 111),
zg 113 112 false (.mv 22),
zg 114 112 false (.bin .neq 113 (zi 0)),
zq 115 (.pick 112 (.k (.bool true)) 114)]
def c7_20 : C := .reg (some [4]) [zq 4 (.mv (.k (.bool false)))]
def c7_21 : C := .reg (some [1, 8, 10, 11, 12]) [zq 116 (.mv 19),
zq 11 (.mv 116)]
def c7_22 : C := .reg (some [1, 8, 10, 11, 12]) [zq 117 (.mv 8),
zq 118 (.call (zf f_objects_Store_Set) [117, (zi 0), (zi 3), (.k (.int .u64 9))])]
def c7_23 : C := .reg (some [1, 8, 10, 11, 12, 121]) [zq 119 (.mv 8),
zq 120 (.call (zf f_objects_Store_End) [119, (zi 0)]),
zq 121 (.bin .neq 120 (zi 0))]
def c7_24 : C := .reg (some [4]) [zq 4 (.mv (.k (.bool false)))]
def c7_25 : C := .reg (some [1, 8, 10, 11, 12]) [zq 52 (.mv 12),
zq 53 (.bin .add 52 (zi 1)),
zq 12 (.mv 53)]
def c7_26 : C := .reg (some [4]) [zq 4 (.mv (.k (.bool true)))]
def b_steadfastlaw10_ObjectsAgain_0 : C :=
    .seq (.seq (c7_11) (
    .cond (.t 51) (
      .skip) (
      .exit 0))) (
    .seq (.block 1 (
      .seq (c7_12) (
      .seq (c7_13) (
      .seq (.seq (c7_14) (
      .cond (.t 86) (
        .seq (c7_15) (
        .ret)) (
        .skip))) (
      .seq (c7_16) (
      .seq (c7_17) (
      .seq (c7_18) (
      .seq (.seq (c7_19) (
      .cond (.t 115) (
        .seq (c7_20) (
        .ret)) (
        .skip))) (
      .seq (c7_21) (
      .seq (c7_22) (
      .seq (c7_23) (
      .cond (.t 121) (
        .seq (c7_24) (
        .ret)) (
        .skip))))))))))))) (
    c7_25))
/-- steadfast/steadfastlaw10.ObjectsAgain -/
@[go_sem] def fc_steadfastlaw10_ObjectsAgain : Fc := ⟨2,
  .seq (c7_0) (
  .seq (c7_1) (
  .seq (c7_2) (
  .seq (.seq (c7_3) (
  .cond (.t 33) (
    .seq (c7_4) (
    .ret)) (
    .skip))) (
  .seq (c7_5) (
  .seq (.seq (c7_6) (
  .cond (.t 42) (
    .seq (c7_7) (
    .ret)) (
    .skip))) (
  .seq (c7_8) (
  .seq (c7_9) (
  .seq (.seq (c7_10) (
  .block 0 (
    .loop [1, 8, 10, 11, 12] b_steadfastlaw10_ObjectsAgain_0))) (
  .seq (c7_26) (
  .ret)))))))))),
  [.t 4]⟩
def c8_0 : C := .reg (some [0, 1]) [zq 4 (.mv (.k (.bool false)))]
def c8_1 : C := .reg (some [0, 1, 5]) [zq 25 (.call (zf f_steadfastlaw10_shown) []),
zq 5 (.mv 25)]
def c8_2 : C := .reg (some [0, 1, 5, 6]) [zq 27 (.call (zf f_nvm_New) [(zi 100)]),
zq 26 (.mv 27),
zq 28 (.ext 26 0),
zq 29 (.ext 26 1),
zq 6 (.mv 28),
zq 7 (.mv 29)]
def c8_3 : C := .reg (some [0, 1, 6, 35]) [zq 30 (.mv 5),
zq 31 (.un .not 30),
zq 32 (.mv 31),
zg 33 32 false (.mv 6),
zg 34 32 false (.eq false 1 33 (.k .nilp)),
zq 35 (.pick 32 (.k (.bool true)) 34)]
def c8_4 : C := .reg (some [4]) [zq 4 (.mv (.k (.bool false)))]
def c8_5 : C := .reg (some [0, 1, 8]) [zq 37 (.mv 6),
zq 38 (.call (zf f_steadfastlaw10_table) [(zi 12)]),
zq 39 (.call (zf f_steadfastlaw10_dir) []),
zq 40 (.call (zf f_objects_Of) [37, (zi 10), 38, 39]),
zq 36 (.mv 40),
zq 41 (.ext 36 0),
zq 42 (.ext 36 1),
zq 8 (.mv 41),
zq 9 (.mv 42)]
def c8_6 : C := .reg (some [0, 1, 8, 44]) [zq 43 (.mv 8),
zq 44 (.eq false 1 43 (.k .nilp))]
def c8_7 : C := .reg (some [4]) [zq 4 (.mv (.k (.bool false)))]
def c8_8 : C := .reg (some [0, 1, 8, 10]) [zq 10 (.mv (zi 0))]
def c8_9 : C := .reg (some [0, 1, 8, 10, 52]) [zq 45 (.mv 10),
zq 46 (.mv 0),
zq 47 (.len false 46),
zq 48 (.bin .lss 45 47),
zq 49 (.mv 48),
zg 50 49 true (.mv 10),
zg 51 49 true (.bin .lss 50 (zi 60)),
zq 52 (.pick 49 51 (.k (.bool false)))]
def c8_10 : C := .reg (some [0, 1, 8, 10, 11]) [zq 55 (.mv 0),
zq 56 (.mv 10),
zq 57 (.sad 54 55 56),
zq 58 (.ld 54 57),
zq 11 (.alloc false (.agg 54 [(.int .i64 0), (.int .i64 0), (.int .i64 0), (.int .u64 0)])),
zw (.st 54 11 58)]
def c8_11 : C := .reg (some [0, 1, 8, 10, 11, 60]) [zq 59 (.mv 10),
zq 60 (.bin .eql 59 (zi 20))]
def c8_12 : C := .reg (some [0, 1, 8, 10, 11]) [zq 61 (.mv 8),
zq 62 (.call (zf f_objects_Store_Mark) [61])]
def c8_13 : C := .reg (some [0, 1, 8, 10, 11, 65]) [zq 63 (.fad 54 0 10 11),
zq 64 (.ld 10 63),
zq 65 (.call (zf f_steadfastlaw10_kind) [64, (zi 3)])]
def c8_14 : C := .reg (some [0, 1, 8, 10, 11, 65, 66]) [zq 67 (.bin .eql 65 (zi 0)),
zq 66 (.mv 67)]
def c8_15 : C := .regd (some [0, 1, 8, 10]) [zq 68 (.mv 8),
zq 69 (.fad 54 1 10 11),
zq 70 (.ld 10 69),
zq 71 (.pcall (zf f_steadfastlaw10_kind) [70, (zi 20)]),
zq 72 (.fad 54 2 10 11),
zq 73 (.ld 10 72),
zq 74 (.pcall (zf f_steadfastlaw10_kind) [73, (zi 8)]),
zq 75 (.fad 54 3 18 11),
zq 76 (.ld 18 75),
zq 77 (.call (zf f_objects_Store_Set) [68, 71, 74, 76])]
def c8_16 : C := .reg (some [0, 1, 8, 10, 11, 65, 78]) [zq 79 (.bin .eql 65 (zi 1)),
zq 78 (.mv 79)]
def c8_17 : C := .reg (some [0, 1, 8, 10]) [zq 80 (.mv 8),
zq 81 (.fad 54 2 10 11),
zq 82 (.ld 10 81),
zq 83 (.call (zf f_steadfastlaw10_kind) [82, (zi 2)]),
zq 84 (.bin .add (zi 1) 83),
zq 85 (.call (zf f_objects_Store_Make) [80, 84])]
def c8_18 : C := .reg (some [0, 1, 8, 10, 11, 86]) [zq 87 (.bin .eql 65 (zi 2)),
zq 86 (.mv 87)]
def c8_19 : C := .reg (some [0, 1, 8, 10]) [zq 88 (.mv 8),
zq 89 (.fad 54 1 10 11),
zq 90 (.ld 10 89),
zq 91 (.call (zf f_steadfastlaw10_kind) [90, (zi 20)]),
zq 92 (.call (zf f_objects_Store_End) [88, 91])]
def c8_20 : C := .reg (some [0, 1, 8, 10]) [zq 53 (.mv 10),
zq 54 (.bin .add 53 (zi 1)),
zq 10 (.mv 54)]
def c8_21 : C := .reg (some [1, 8]) [zq 93 (.mv 8),
zq 94 (.call (zf f_objects_Store_Mark) [93])]
def c8_22 : C := .reg (some [1, 8, 12]) [zq 95 (.call (zf f_steadfastlaw10_dir) []),
zq 12 (.alloc false (.agg 50 (List.replicate 8 (.int .i64 0)))),
zw (.st 50 12 95)]
def c8_23 : C := .reg (some [1, 8, 12]) [zq 13 (.mv (zi 0))]
def c8_24 : C := .reg (some [8, 12, 96]) [zq 96 (.mv 1)]
def c8_25 : C := .reg (some [8, 12, 14]) [zq 14 (.mv (zi 0))]
def c8_26 : C := .reg (some [8, 12, 14, 98]) [zq 97 (.mv 14),
zq 98 (.bin .lss 97 (zi 8))]
def c8_27 : C := .reg (some [8, 12, 14, 15, 16]) [zq 102 (.mv 8),
zq 103 (.call (zf f_objects_Store_Take) [102]),
zq 101 (.mv 103),
zq 104 (.ext 101 0),
zq 105 (.ext 101 1),
zq 15 (.mv 104),
zq 16 (.mv 105)]
def c8_28 : C := .reg (some [8, 12, 14, 15, 107]) [zq 106 (.mv 16),
zq 107 (.bin .neq 106 (zi 0))]
def c8_29 : C := .reg (some [4]) [zq 4 (.mv (.k (.bool true)))]
def c8_30 : C := .reg (some [8, 12, 14]) [zq 108 (.mv 14),
zq 109 (.mv 15),
zq 110 (.iad 50 8 10 12 108),
zw (.st 10 110 109)]
def c8_31 : C := .reg (some [8, 12, 14]) [zq 99 (.mv 14),
zq 100 (.bin .add 99 (zi 1)),
zq 14 (.mv 100)]
def c8_32 : C := .reg (some [8, 12, 13]) [zq 111 (.mv 8),
zq 112 (.ld 50 12),
zq 113 (.call (zf f_objects_Store_Commit) [111, 112]),
zq 13 (.mv 113)]
def c8_33 : C := .reg (some [8, 12]) [zq 114 (.mv 8),
zq 115 (.call (zf f_objects_Store_Take) [114])]
def c8_34 : C := .reg (some [8, 12, 13]) [zq 116 (.mv 8),
zq 117 (.call (zf f_objects_Store_Abort) [116]),
zq 13 (.mv 117)]
def c8_35 : C := .reg (some [8, 12, 13, 17, 18]) [zq 119 (.mv 8),
zq 120 (.call (zf f_objects_Store_Base) [119]),
zq 118 (.mv 120),
zq 121 (.ext 118 0),
zq 122 (.ext 118 1),
zq 17 (.alloc false (.agg 48 (List.replicate 49 (.agg 42 [(.int .i64 0), (.int .i64 0), (.int .i64 0)])))),
zq 18 (.alloc false (.agg 50 (List.replicate 8 (.int .i64 0)))),
zw (.st 48 17 121),
zw (.st 50 18 122)]
def c8_36 : C := .reg (some [8, 12, 13, 17, 18, 19]) [zq 123 (.mv 8),
zq 124 (.call (zf f_objects_Store_Table) [123]),
zq 19 (.alloc false (.agg 48 (List.replicate 49 (.agg 42 [(.int .i64 0), (.int .i64 0), (.int .i64 0)])))),
zw (.st 48 19 124)]
def c8_37 : C := .reg (some [8, 12, 13, 17, 18, 19, 20]) [zq 125 (.mksl false 20 0 (.bool false) (zi 100) (zi 100)),
zq 20 (.mv 125)]
def c8_38 : C := .reg (some [8, 12, 13, 17, 18, 19, 20, 21]) [zq 21 (.mv (zi 0))]
def c8_39 : C := .reg (some [8, 12, 13, 17, 18, 19, 20, 21, 127]) [zq 126 (.mv 21),
zq 127 (.bin .lss 126 (zi 49))]
def c8_40 : C := .reg (some [8, 12, 13, 17, 18, 19, 20, 21, 134]) [zq 130 (.mv 21),
zq 131 (.iad 48 49 42 17 130),
zq 132 (.fad 42 0 10 131),
zq 133 (.ld 10 132),
zq 134 (.bin .neq 133 (zi 0))]
def c8_41 : C := .reg (some [8, 12, 13, 17, 18, 19, 20, 21]) [zq 135 (.mv 20),
zq 136 (.mv 21),
zq 137 (.iad 48 49 42 17 136),
zq 138 (.fad 42 2 10 137),
zq 139 (.ld 10 138),
zq 140 (.sad 0 135 139),
zw (.st 0 140 (.k (.bool true)))]
def c8_42 : C := .reg (some [8, 12, 13, 17, 18, 19, 20, 21, 145]) [zq 141 (.mv 21),
zq 142 (.iad 48 49 42 19 141),
zq 143 (.fad 42 0 10 142),
zq 144 (.ld 10 143),
zq 145 (.bin .neq 144 (zi 0))]
def c8_43 : C := .reg (some [8, 12, 13, 17, 18, 19, 20, 21]) [zq 146 (.mv 20),
zq 147 (.mv 21),
zq 148 (.iad 48 49 42 19 147),
zq 149 (.fad 42 2 10 148),
zq 150 (.ld 10 149),
zq 151 (.sad 0 146 150),
zw (.st 0 151 (.k (.bool true)))]
def c8_44 : C := .reg (some [8, 12, 13, 17, 18, 19, 20, 21]) [zq 128 (.mv 21),
zq 129 (.bin .add 128 (zi 1)),
zq 21 (.mv 129)]
def c8_45 : C := .reg (some [8, 12, 13, 18, 20, 22]) [zq 22 (.mv (zi 0))]
def c8_46 : C := .reg (some [8, 12, 13, 18, 20, 22, 153]) [zq 152 (.mv 22),
zq 153 (.bin .lss 152 (zi 8))]
def c8_47 : C := .reg (some [8, 12, 13, 18, 20, 22]) [zq 156 (.mv 20),
zq 157 (.mv 22),
zq 158 (.iad 50 8 10 18 157),
zq 159 (.ld 10 158),
zq 160 (.sad 0 156 159),
zw (.st 0 160 (.k (.bool true)))]
def c8_48 : C := .reg (some [8, 12, 13, 18, 20, 22]) [zq 154 (.mv 22),
zq 155 (.bin .add 154 (zi 1)),
zq 22 (.mv 155)]
def c8_49 : C := .reg (some [8, 12, 13, 18, 20, 23]) [zq 23 (.mv (zi 0))]
def c8_50 : C := .reg (some [8, 12, 13, 18, 20, 23, 24]) [zq 24 (.mv (zi 10))]
def c8_51 : C := .reg (some [8, 12, 13, 18, 20, 23, 24, 162]) [zq 161 (.mv 24),
zq 162 (.bin .lss 161 (zi 100))]
def c8_52 : C := .reg (some [8, 12, 13, 18, 20, 23, 24, 169]) [zq 165 (.mv 20),
zq 166 (.mv 24),
zq 167 (.sad 0 165 166),
zq 168 (.ld 0 167),
zq 169 (.un .not 168)]
def c8_53 : C := .reg (some [8, 12, 13, 18, 20, 23, 24]) [zq 170 (.mv 23),
zq 171 (.bin .add 170 (zi 1)),
zq 23 (.mv 171)]
def c8_54 : C := .reg (some [8, 12, 13, 18, 20, 23, 24]) [zq 163 (.mv 24),
zq 164 (.bin .add 163 (zi 1)),
zq 24 (.mv 164)]
def c8_55 : C := .reg (some [4]) [zq 172 (.mv 13),
zq 173 (.bin .eql 172 (zi 0)),
zq 174 (.mv 173),
zg 175 174 true (.ld 50 18),
zg 176 174 true (.ld 50 12),
zg 177 174 true (.eq false 50 175 176),
zq 178 (.pick 174 177 (.k (.bool false))),
zq 179 (.mv 178),
zg 180 179 true (.mv 8),
zg 181 179 true (.call (zf f_objects_Store_Left) [180]),
zg 182 179 true (.mv 23),
zg 183 179 true (.bin .eql 181 182),
zq 184 (.pick 179 183 (.k (.bool false))),
zq 4 (.mv 184)]
def b_steadfastlaw10_ObjectsFree_0 : C :=
    .seq (.seq (c8_9) (
    .cond (.t 52) (
      .skip) (
      .exit 0))) (
    .seq (.block 1 (
      .seq (c8_10) (
      .seq (.seq (c8_11) (
      .cond (.t 60) (
        c8_12) (
        .skip))) (
      .seq (c8_13) (
      .block 2 (
        .seq (c8_14) (
        .cond (.t 66) (
          c8_15) (
          .seq (c8_16) (
          .cond (.t 78) (
            c8_17) (
            .seq (c8_18) (
            .cond (.t 86) (
              c8_19) (
              .skip)))))))))))) (
    c8_20))
def b_steadfastlaw10_ObjectsFree_1 : C :=
    .seq (.seq (c8_26) (
    .cond (.t 98) (
      .skip) (
      .exit 3))) (
    .seq (.block 4 (
      .seq (c8_27) (
      .seq (.seq (c8_28) (
      .cond (.t 107) (
        .seq (c8_29) (
        .ret)) (
        .skip))) (
      c8_30)))) (
    c8_31))
def b_steadfastlaw10_ObjectsFree_2 : C :=
    .seq (.seq (c8_39) (
    .cond (.t 127) (
      .skip) (
      .exit 5))) (
    .seq (.block 6 (
      .seq (.seq (c8_40) (
      .cond (.t 134) (
        c8_41) (
        .skip))) (
      .seq (c8_42) (
      .cond (.t 145) (
        c8_43) (
        .skip))))) (
    c8_44))
def b_steadfastlaw10_ObjectsFree_3 : C :=
    .seq (.seq (c8_46) (
    .cond (.t 153) (
      .skip) (
      .exit 7))) (
    .seq (.block 8 (
      c8_47)) (
    c8_48))
def b_steadfastlaw10_ObjectsFree_4 : C :=
    .seq (.seq (c8_51) (
    .cond (.t 162) (
      .skip) (
      .exit 9))) (
    .seq (.block 10 (
      .seq (c8_52) (
      .cond (.t 169) (
        c8_53) (
        .skip)))) (
    c8_54))
/-- steadfast/steadfastlaw10.ObjectsFree -/
@[go_sem] def fc_steadfastlaw10_ObjectsFree : Fc := ⟨2,
  .seq (c8_0) (
  .seq (c8_1) (
  .seq (c8_2) (
  .seq (.seq (c8_3) (
  .cond (.t 35) (
    .seq (c8_4) (
    .ret)) (
    .skip))) (
  .seq (c8_5) (
  .seq (.seq (c8_6) (
  .cond (.t 44) (
    .seq (c8_7) (
    .ret)) (
    .skip))) (
  .seq (.seq (c8_8) (
  .block 0 (
    .loop [0, 1, 8, 10] b_steadfastlaw10_ObjectsFree_0))) (
  .seq (c8_21) (
  .seq (c8_22) (
  .seq (c8_23) (
  .seq (.seq (c8_24) (
  .cond (.t 96) (
    .seq (.seq (c8_25) (
    .block 3 (
      .loop [8, 12, 14] b_steadfastlaw10_ObjectsFree_1))) (
    c8_32)) (
    .seq (c8_33) (
    c8_34)))) (
  .seq (c8_35) (
  .seq (c8_36) (
  .seq (c8_37) (
  .seq (.seq (c8_38) (
  .block 5 (
    .loop [8, 12, 13, 17, 18, 19, 20, 21] b_steadfastlaw10_ObjectsFree_2))) (
  .seq (.seq (c8_45) (
  .block 7 (
    .loop [8, 12, 13, 18, 20, 22] b_steadfastlaw10_ObjectsFree_3))) (
  .seq (c8_49) (
  .seq (.seq (c8_50) (
  .block 9 (
    .loop [8, 12, 13, 18, 20, 23, 24] b_steadfastlaw10_ObjectsFree_4))) (
  .seq (c8_55) (
  .ret))))))))))))))))))),
  [.t 4]⟩
def c9_0 : C := .reg (some []) [zq 0 (.mv (.k (.bool false)))]
def c9_1 : C := .reg (some [1]) [zq 18 (.call (zf f_nvm_New) [(zi 80)]),
zq 17 (.mv 18),
zq 19 (.ext 17 0),
zq 20 (.ext 17 1),
zq 1 (.mv 19),
zq 2 (.mv 20)]
def c9_2 : C := .reg (some [1, 22]) [zq 21 (.mv 1),
zq 22 (.eq false 1 21 (.k .nilp))]
def c9_3 : C := .reg (some [0]) [zq 0 (.mv (.k (.bool false)))]
def c9_4 : C := .reg (some [1, 3]) [zq 23 (.bld (.agg 48 (List.replicate 49 (.agg 42 [(.int .i64 0), (.int .i64 0), (.int .i64 0)]))) []),
zq 3 (.alloc false (.agg 48 (List.replicate 49 (.agg 42 [(.int .i64 0), (.int .i64 0), (.int .i64 0)])))),
zw (.st 48 3 23)]
def c9_5 : C := .reg (some [1, 3]) [zq 24 (.bld (.agg 42 [(.int .i64 0), (.int .i64 0), (.int .i64 0)]) [(0, (zi 1)), (2, (zi 20))]),
zq 25 (.iad 48 49 42 3 (zi 0)),
zw (.st 42 25 24)]
def c9_6 : C := .regd (some [4, 5]) [zq 27 (.mv 1),
zq 28 (.ld 48 3),
zq 29 (.pcall (zf f_steadfastlaw10_dir) []),
zq 30 (.call (zf f_objects_Of) [27, (zi 10), 28, 29]),
zq 26 (.mv 30),
zq 31 (.ext 26 0),
zq 32 (.ext 26 1),
zq 4 (.mv 31),
zq 5 (.mv 32)]
def c9_7 : C := .reg (some [4, 38]) [zq 33 (.mv 4),
zq 34 (.eq false 1 33 (.k .nilp)),
zq 35 (.mv 34),
zg 36 35 false (.mv 5),
zg 37 35 false (.bin .neq 36 (zi 0)),
zq 38 (.pick 35 (.k (.bool true)) 37)]
def c9_8 : C := .reg (some [0]) [zq 0 (.mv (.k (.bool false)))]
def c9_9 : C := .reg (some [4, 6]) [zq 39 (.mv 4),
zq 40 (.call (zf f_objects_Store_Set) [39, (zi 0), (zi 3), (.k (.int .u64 7))]),
zq 6 (.mv 40)]
def c9_10 : C := .reg (some [4, 6, 7]) [zq 41 (.mv 4),
zq 42 (.call (zf f_objects_Store_Table) [41]),
zq 7 (.alloc false (.agg 48 (List.replicate 49 (.agg 42 [(.int .i64 0), (.int .i64 0), (.int .i64 0)])))),
zw (.st 48 7 42)]
def c9_11 : C := .reg (some [4, 6, 7, 8]) [zq 43 (.mv 4),
zq 44 (.call (zf f_objects_Store_Set) [43, (zi 0), (zi 4), (.k (.int .u64 8))]),
zq 8 (.mv 44)]
def c9_12 : C := .reg (some [4, 6, 7, 8, 9]) [zq 45 (.mv 4),
zq 46 (.call (zf f_objects_Store_Table) [45]),
zq 9 (.alloc false (.agg 48 (List.replicate 49 (.agg 42 [(.int .i64 0), (.int .i64 0), (.int .i64 0)])))),
zw (.st 48 9 46)]
def c9_13 : C := .reg (some [4, 6, 7, 8, 9, 10]) [zq 48 (.mv 4),
zq 49 (.call (zf f_objects_Store_Get) [48, (zi 0)]),
zq 47 (.mv 49),
zq 50 (.ext 47 0),
zq 51 (.ext 47 1),
zq 10 (.alloc false (.agg 26 [(.int .i64 0), (.int .i64 0), (.agg 24 (List.replicate 8 (.int .u64 0)))])),
zw (.st 26 10 50),
zq 11 (.mv 51)]
def c9_14 : C := .reg (some [4, 6, 7, 8, 9, 10, 13]) [zq 53 (.mv 4),
zq 54 (.call (zf f_objects_Store_Make) [53, (zi 3)]),
zq 52 (.mv 54),
zq 55 (.ext 52 0),
zq 56 (.ext 52 1),
zq 12 (.mv 55),
zq 13 (.mv 56)]
def c9_15 : C := .reg (some [6, 7, 8, 9, 10, 13, 14, 15, 16]) [zq 58 (.mv 4),
zq 59 (.call (zf f_objects_Store_Next) [58, (zi 1)]),
zq 57 (.mv 59),
zq 60 (.ext 57 0),
zq 61 (.ext 57 1),
zq 62 (.ext 57 2),
zq 14 (.mv 60),
zq 15 (.mv 61),
zq 16 (.mv 62)]
def c9_16 : C := .reg (some [0]) [zq 63 (.mv 6),
zq 64 (.bin .eql 63 (zi 0)),
zq 65 (.mv 64),
zg 66 65 true (.mv 8),
zg 67 65 true (.bin .eql 66 (zi 0)),
zq 68 (.pick 65 67 (.k (.bool false))),
zq 69 (.mv 68),
zg 70 69 true (.iad 48 49 42 7 (zi 0)),
zg 71 69 true (.fad 42 2 10 70),
zg 72 69 true (.ld 10 71),
zg 73 69 true (.bin .neq 72 (zi 20)),
zq 74 (.pick 69 73 (.k (.bool false))),
zq 75 (.mv 74),
zg 76 75 true (.iad 48 49 42 9 (zi 0)),
zg 77 75 true (.fad 42 2 10 76),
zg 78 75 true (.ld 10 77),
zg 79 75 true (.iad 48 49 42 7 (zi 0)),
zg 80 75 true (.fad 42 2 10 79),
zg 81 75 true (.ld 10 80),
zg 82 75 true (.bin .eql 78 81),
zq 83 (.pick 75 82 (.k (.bool false))),
zq 84 (.mv 83),
zg 85 84 true (.fad 26 2 24 10),
zg 86 84 true (.ld 24 85),
zg 87 84 true (.bld (.agg 24 (List.replicate 8 (.int .u64 0))) [(3, (.k (.int .u64 7))), (4, (.k (.int .u64 8)))]),
zg 88 84 true (.eq false 24 86 87),
zq 89 (.pick 84 88 (.k (.bool false))),
zq 90 (.mv 89),
zg 91 90 true (.mv 13),
zg 92 90 true (.bin .eql 91 (zi 1)),
zq 93 (.pick 90 92 (.k (.bool false))),
zq 94 (.mv 93),
zg 95 94 true (.mv 14),
zg 96 94 true (.bin .eql 95 (zi 1)),
zq 97 (.pick 94 96 (.k (.bool false))),
zq 98 (.mv 97),
zg 99 98 true (.mv 15),
zg 100 98 true (.bin .eql 99 (zi 0)),
zq 101 (.pick 98 100 (.k (.bool false))),
zq 102 (.mv 101),
zg 103 102 true (.mv 16),
zg 104 102 true (.bin .eql 103 (zi 0)),
zq 105 (.pick 102 104 (.k (.bool false))),
zq 0 (.mv 105)]
/-- steadfast/steadfastlaw10.shown -/
@[go_sem] def fc_steadfastlaw10_shown : Fc := ⟨0,
  .seq (c9_0) (
  .seq (c9_1) (
  .seq (.seq (c9_2) (
  .cond (.t 22) (
    .seq (c9_3) (
    .ret)) (
    .skip))) (
  .seq (c9_4) (
  .seq (c9_5) (
  .seq (c9_6) (
  .seq (.seq (c9_7) (
  .cond (.t 38) (
    .seq (c9_8) (
    .ret)) (
    .skip))) (
  .seq (c9_9) (
  .seq (c9_10) (
  .seq (c9_11) (
  .seq (c9_12) (
  .seq (c9_13) (
  .seq (c9_14) (
  .seq (c9_15) (
  .seq (c9_16) (
  .ret))))))))))))))),
  [.t 0]⟩
def c10_0 : C := .reg (some [0]) [zq 2 (.mv (.k .nilp)),
zq 3 (.mv (zi 0))]
def c10_1 : C := .reg (some [0, 9]) [zq 4 (.mv 0),
zq 5 (.bin .lss 4 (zi 64)),
zq 6 (.mv 5),
zg 7 6 false (.mv 0),
zg 8 6 false (.bin .gtr 7 (zi 1024)),
zq 9 (.pick 6 (.k (.bool true)) 8)]
def c10_2 : C := .reg (some [2, 3]) [zq 2 (.mv (.k .nilp)),
zq 3 (.mv (zi 1))]
def c10_3 : C := .reg (some [2, 3]) [zq 10 (.mv 0),
zq 11 (.mksl true 57 55 (.agg 55 [(.agg 24 (List.replicate 8 (.int .u64 0))), (.agg 24 (List.replicate 8 (.int .u64 0))), .nils, (.agg 50 (List.replicate 8 (.int .i64 0)))]) 10 10),
zq 12 (.bld (.agg 59 [.nils, (.bool false), (.bool false), (.int .i64 0), (.int .i64 0)]) [(0, 11)]),
zq 13 (.box true 12),
zq 2 (.mv 13),
zq 3 (.mv (zi 0))]
/-- steadfast/nvm.New -/
@[go_sem] def fc_nvm_New : Fc := ⟨1,
  .seq (c10_0) (
  .seq (.seq (c10_1) (
  .cond (.t 9) (
    .seq (c10_2) (
    .ret)) (
    .skip))) (
  .seq (c10_3) (
  .ret))),
  [.t 2, .t 3]⟩
def c11_0 : C := .reg (some [0]) [zq 2 (.mv (.k .nilp)),
zq 3 (.mv (zi 0))]
def c11_1 : C := .reg (some [0, 9]) [zq 4 (.mv 0),
zq 5 (.bin .lss 4 (zi 64)),
zq 6 (.mv 5),
zg 7 6 false (.mv 0),
zg 8 6 false (.bin .gtr 7 (zi 1024)),
zq 9 (.pick 6 (.k (.bool true)) 8)]
def c11_2 : C := .reg (some [2, 3]) [zq 2 (.mv (.k .nilp)),
zq 3 (.mv (zi 1))]
def c11_3 : C := .reg (some [2, 3]) [zq 10 (.mv 0),
zq 11 (.mksl false 58 24 (.agg 24 (List.replicate 8 (.int .u64 0))) 10 10),
zq 12 (.call (zf f_steadfastref03_Of) [11]),
zq 13 (.ext 12 0),
zq 14 (.ext 12 1),
zq 2 (.mv 13),
zq 3 (.mv 14)]
/-- steadfast/steadfastref03.New -/
@[go_sem] def fc_steadfastref03_New : Fc := ⟨1,
  .seq (c11_0) (
  .seq (.seq (c11_1) (
  .cond (.t 9) (
    .seq (c11_2) (
    .ret)) (
    .skip))) (
  .seq (c11_3) (
  .ret))),
  [.t 2, .t 3]⟩
def c12_0 : C := .reg (some [0, 1, 6, 7]) [zq 6 (.box false 2),
zq 7 (.box false 3),
zq 8 (.mv (.k .nilp)),
zq 9 (.mv (zi 0))]
def c12_1 : C := .reg (some [0, 6, 7, 10, 11]) [zq 18 (.mv 1),
zq 19 (.mv 0),
zq 20 (.call (zf f_nvm_Memory_Lines) [19]),
zq 21 (.call (zf f_frames_New) [18, 20]),
zq 17 (.mv 21),
zq 22 (.ext 17 0),
zq 23 (.ext 17 1),
zq 10 (.mv 22),
zq 11 (.mv 23)]
def c12_2 : C := .reg (some [0, 6, 7, 10, 11, 25]) [zq 24 (.mv 11),
zq 25 (.bin .neq 24 (zi 0))]
def c12_3 : C := .reg (some [8, 9]) [zq 26 (.mv 11),
zq 8 (.mv (.k .nilp)),
zq 9 (.mv 26)]
def c12_4 : C := .reg (some [6, 7, 10, 12]) [zq 27 (.mv 0),
zq 28 (.mv 10),
zq 29 (.ld 48 6),
zq 30 (.ld 48 6),
zq 31 (.ld 50 7),
zq 32 (.bld (.agg 43 [.nilp, .nilp, (.agg 48 (List.replicate 49 (.agg 42 [(.int .i64 0), (.int .i64 0), (.int .i64 0)]))), (.agg 48 (List.replicate 49 (.agg 42 [(.int .i64 0), (.int .i64 0), (.int .i64 0)]))), (.agg 50 (List.replicate 8 (.int .i64 0))), (.agg 48 (List.replicate 49 (.agg 42 [(.int .i64 0), (.int .i64 0), (.int .i64 0)]))), (.bool false), (.agg 82 (List.replicate 1024 (.bool false)))]) [(0, 27), (1, 28), (2, 29), (3, 30), (4, 31)]),
zq 33 (.box true 32),
zq 12 (.mv 33)]
def c12_5 : C := .reg (some [7, 10, 12, 34, 35]) [zq 34 (.ld 48 6),
zq 35 (.mv (zi 0))]
def c12_6 : C := .reg (some [7, 10, 12, 34, 35, 36]) [zq 36 (.bin .lss 35 (zi 49))]
def c12_7 : C := .reg (some [7, 10, 12, 14, 34, 35]) [zq 37 (.idx 48 49 34 35),
zq 14 (.alloc false (.agg 42 [(.int .i64 0), (.int .i64 0), (.int .i64 0)])),
zw (.st 42 14 37)]
def c12_8 : C := .reg (some [7, 10, 12, 34, 35, 47]) [zq 38 (.fad 42 0 10 14),
zq 39 (.ld 10 38),
zq 40 (.bin .neq 39 (zi 0)),
zq 41 (.mv 40),
zg 42 41 true (.mv 10),
zg 43 41 true (.fad 42 2 10 14),
zg 44 41 true (.ld 10 43),
zg 45 41 true (.call (zf f_frames_Frames_Take) [42, 44]),
zg 46 41 true (.bin .neq 45 (zi 0)),
zq 47 (.pick 41 46 (.k (.bool false)))]
def c12_9 : C := .reg (some [8, 9]) [zq 8 (.mv (.k .nilp)),
zq 9 (.mv (zi 21))]
def c12_10 : C := .reg (some [7, 10, 12, 34, 35]) [zq 48 (.bin .add 35 (zi 1)),
zq 35 (.mv 48)]
def c12_11 : C := .reg (some [10, 12, 49, 50]) [zq 49 (.ld 50 7),
zq 50 (.mv (zi 0))]
def c12_12 : C := .reg (some [10, 12, 49, 50, 51]) [zq 51 (.bin .lss 50 (zi 8))]
def c12_13 : C := .reg (some [10, 12, 16, 49, 50]) [zq 52 (.idx 50 8 49 50),
zq 16 (.mv 52)]
def c12_14 : C := .reg (some [10, 12, 49, 50, 56]) [zq 53 (.mv 10),
zq 54 (.mv 16),
zq 55 (.call (zf f_frames_Frames_Take) [53, 54]),
zq 56 (.bin .neq 55 (zi 0))]
def c12_15 : C := .reg (some [8, 9]) [zq 8 (.mv (.k .nilp)),
zq 9 (.mv (zi 21))]
def c12_16 : C := .reg (some [10, 12, 49, 50]) [zq 57 (.bin .add 50 (zi 1)),
zq 50 (.mv 57)]
def c12_17 : C := .reg (some [12]) [zq 58 (.mv 12),
zq 59 (.call (zf f_objects_Store_share) [58])]
def c12_18 : C := .reg (some [8, 9]) [zq 60 (.mv 12),
zq 8 (.mv 60),
zq 9 (.mv (zi 0))]
def b_objects_Of_0 : C :=
    .seq (c12_6) (
    .seq (.cond (.t 36) (
      .skip) (
      .exit 0)) (
    .seq (.block 1 (
      .seq (c12_7) (
      .seq (c12_8) (
      .cond (.t 47) (
        .seq (c12_9) (
        .ret)) (
        .skip))))) (
    c12_10)))
def b_objects_Of_1 : C :=
    .seq (c12_12) (
    .seq (.cond (.t 51) (
      .skip) (
      .exit 2)) (
    .seq (.block 3 (
      .seq (c12_13) (
      .seq (c12_14) (
      .cond (.t 56) (
        .seq (c12_15) (
        .ret)) (
        .skip))))) (
    c12_16)))
/-- steadfast/objects.Of -/
@[go_sem] def fc_objects_Of : Fc := ⟨4,
  .seq (c12_0) (
  .seq (c12_1) (
  .seq (.seq (c12_2) (
  .cond (.t 25) (
    .seq (c12_3) (
    .ret)) (
    .skip))) (
  .seq (c12_4) (
  .seq (.seq (c12_5) (
  .block 0 (
    .loop [7, 10, 12, 34, 35] b_objects_Of_0))) (
  .seq (.seq (c12_11) (
  .block 2 (
    .loop [10, 12, 49, 50] b_objects_Of_1))) (
  .seq (c12_17) (
  .seq (c12_18) (
  .ret)))))))),
  [.t 8, .t 9]⟩
def c13_0 : C := .reg (some [0, 1, 6, 7]) [zq 6 (.box false 2),
zq 7 (.box false 3),
zq 8 (.mv (.k .nilp)),
zq 9 (.mv (zi 0))]
def c13_1 : C := .reg (some [0, 6, 7, 10, 11]) [zq 15 (.mv 1),
zq 16 (.mv 0),
zq 17 (.nilc 16),
zq 18 (.fad 33 0 1 17),
zq 19 (.ld 1 18),
zq 20 (.len false 19),
zq 21 (.call (zf f_steadfastref04_New) [15, 20]),
zq 14 (.mv 21),
zq 22 (.ext 14 0),
zq 23 (.ext 14 1),
zq 10 (.mv 22),
zq 11 (.mv 23)]
def c13_2 : C := .reg (some [0, 6, 7, 10, 25]) [zq 24 (.mv 11),
zq 25 (.bin .neq 24 (zi 0))]
def c13_3 : C := .reg (some [8, 9]) [zq 8 (.mv (.k .nilp)),
zq 9 (.mv (zi 1))]
def c13_4 : C := .regd (some [0, 6, 7, 10, 12]) [zq 26 (.ld 48 6),
zq 27 (.callw (zf f_steadfastref10_lines) [26] 7),
zq 28 (.slarr 50 8 10 7 none none none),
zq 29 (.app false 38 10 27 28),
zq 12 (.mv 29)]
def c13_5 : C := .reg (some [0, 6, 7, 10, 12, 13]) [zq 13 (.mv (zi 0))]
def c13_6 : C := .reg (some [0, 6, 7, 10, 12, 13, 33]) [zq 30 (.mv 13),
zq 31 (.mv 12),
zq 32 (.len false 31),
zq 33 (.bin .lss 30 32)]
def c13_7 : C := .reg (some [0, 6, 7, 10, 12, 13, 42]) [zq 36 (.mv 10),
zq 37 (.mv 12),
zq 38 (.mv 13),
zq 39 (.sad 10 37 38),
zq 40 (.ld 10 39),
zq 41 (.call (zf f_steadfastref04_Frames_Take) [36, 40]),
zq 42 (.bin .neq 41 (zi 0))]
def c13_8 : C := .reg (some [8, 9]) [zq 8 (.mv (.k .nilp)),
zq 9 (.mv (zi 21))]
def c13_9 : C := .reg (some [0, 6, 7, 10, 12, 13]) [zq 34 (.mv 13),
zq 35 (.bin .add 34 (zi 1)),
zq 13 (.mv 35)]
def c13_10 : C := .reg (some [8, 9]) [zq 43 (.mv 0),
zq 44 (.mv 10),
zq 45 (.ld 48 6),
zq 46 (.ld 48 6),
zq 47 (.ld 50 7),
zq 48 (.bld (.agg 31 [.nilp, .nilp, (.agg 48 (List.replicate 49 (.agg 42 [(.int .i64 0), (.int .i64 0), (.int .i64 0)]))), (.agg 48 (List.replicate 49 (.agg 42 [(.int .i64 0), (.int .i64 0), (.int .i64 0)]))), (.agg 50 (List.replicate 8 (.int .i64 0))), (.agg 48 (List.replicate 49 (.agg 42 [(.int .i64 0), (.int .i64 0), (.int .i64 0)]))), (.bool false)]) [(0, 43), (1, 44), (2, 45), (3, 46), (4, 47)]),
zq 49 (.box true 48),
zq 8 (.mv 49),
zq 9 (.mv (zi 0))]
def b_steadfastref10_Of_0 : C :=
    .seq (.seq (c13_6) (
    .cond (.t 33) (
      .skip) (
      .exit 0))) (
    .seq (.block 1 (
      .seq (c13_7) (
      .cond (.t 42) (
        .seq (c13_8) (
        .ret)) (
        .skip)))) (
    c13_9))
/-- steadfast/steadfastref10.Of -/
@[go_sem] def fc_steadfastref10_Of : Fc := ⟨4,
  .seq (c13_0) (
  .seq (c13_1) (
  .seq (.seq (c13_2) (
  .cond (.t 25) (
    .seq (c13_3) (
    .ret)) (
    .skip))) (
  .seq (c13_4) (
  .seq (.seq (c13_5) (
  .block 0 (
    .loop [0, 6, 7, 10, 12, 13] b_steadfastref10_Of_0))) (
  .seq (c13_10) (
  .ret)))))),
  [.t 8, .t 9]⟩
def c14_0 : C := .reg (some [0, 1]) [zq 4 (.mv (.k (.bool false)))]
def c14_1 : C := .reg (some [0, 1, 5, 6]) [zq 10 (.mv 0),
zq 11 (.call (zf f_objects_Store_Base) [10]),
zq 9 (.mv 11),
zq 12 (.ext 9 0),
zq 13 (.ext 9 1),
zq 5 (.alloc false (.agg 48 (List.replicate 49 (.agg 42 [(.int .i64 0), (.int .i64 0), (.int .i64 0)])))),
zq 6 (.alloc false (.agg 50 (List.replicate 8 (.int .i64 0)))),
zw (.st 48 5 12),
zw (.st 50 6 13)]
def c14_2 : C := .reg (some [0, 1, 5, 6, 7, 8]) [zq 15 (.mv 0),
zq 16 (.call (zf f_objects_Store_Marked) [15]),
zq 14 (.mv 16),
zq 17 (.ext 14 0),
zq 18 (.ext 14 1),
zq 7 (.alloc false (.agg 48 (List.replicate 49 (.agg 42 [(.int .i64 0), (.int .i64 0), (.int .i64 0)])))),
zw (.st 48 7 17),
zq 8 (.mv 18)]
def c14_3 : C := .regd (some [4]) [zq 19 (.mv 0),
zq 20 (.pcall (zf f_objects_Store_Table) [19]),
zq 21 (.mv 1),
zq 22 (.nilc 21),
zq 23 (.fad 31 2 48 22),
zq 24 (.ld 48 23),
zq 25 (.eq false 48 20 24),
zq 26 (.mv 25),
zg 27 26 true (.ld 48 5),
zg 28 26 true (.mv 1),
zg 29 26 true (.nilc 28),
zg 30 26 true (.fad 31 3 48 29),
zg 31 26 true (.ld 48 30),
zg 32 26 true (.eq false 48 27 31),
zq 33 (.pick 26 32 (.k (.bool false))),
zq 34 (.mv 33),
zg 35 34 true (.ld 50 6),
zg 36 34 true (.mv 1),
zg 37 34 true (.nilc 36),
zg 38 34 true (.fad 31 4 50 37),
zg 39 34 true (.ld 50 38),
zg 40 34 true (.eq false 50 35 39),
zq 41 (.pick 34 40 (.k (.bool false))),
zq 42 (.mv 41),
zg 43 42 true (.mv 8),
zg 44 42 true (.mv 1),
zg 45 42 true (.nilc 44),
zg 46 42 true (.fad 31 6 0 45),
zg 47 42 true (.ld 0 46),
zg 48 42 true (.eq false 0 43 47),
zq 49 (.pick 42 48 (.k (.bool false))),
zq 50 (.mv 49),
zg 51 50 true (.mv 8),
zg 52 50 true (.un .not 51),
zg 53 50 true (.mv 52),
zg 54 53 false (.ld 48 7),
zg 55 53 false (.mv 1),
zg 56 53 false (.nilc 55),
zg 57 53 false (.fad 31 5 48 56),
zg 58 53 false (.ld 48 57),
zg 59 53 false (.eq false 48 54 58),
zg 60 50 true (.pick 53 (.k (.bool true)) 59),
zq 61 (.pick 50 60 (.k (.bool false))),
zq 62 (.mv 61),
zg 63 62 true (.mv 0),
zg 64 62 true (.pcall (zf f_objects_Store_Left) [63]),
zg 65 62 true (.mv 1),
zg 66 62 true (.nilc 65),
zg 67 62 true (.fad 31 1 1 66),
zg 68 62 true (.ld 1 67),
zg 69 62 true (.pcall (zf f_steadfastref04_Frames_Left) [68]),
zg 70 62 true (.bin .eql 64 69),
zq 71 (.pick 62 70 (.k (.bool false))),
zq 4 (.mv 71)]
/-- steadfast/steadfastlaw10.like -/
@[go_sem] def fc_steadfastlaw10_like : Fc := ⟨2,
  .seq (c14_0) (
  .seq (c14_1) (
  .seq (c14_2) (
  .seq (c14_3) (
  .ret)))),
  [.t 4]⟩
def c15_0 : C := .reg (some [0, 2]) [zq 2 (.alloc false (.agg 48 (List.replicate 49 (.agg 42 [(.int .i64 0), (.int .i64 0), (.int .i64 0)]))))]
def c15_1 : C := .reg (some [0, 2, 3]) [zq 5 (.bld (.agg 48 (List.replicate 49 (.agg 42 [(.int .i64 0), (.int .i64 0), (.int .i64 0)]))) []),
zq 3 (.alloc false (.agg 48 (List.replicate 49 (.agg 42 [(.int .i64 0), (.int .i64 0), (.int .i64 0)])))),
zw (.st 48 3 5)]
def c15_2 : C := .reg (some [0, 2, 3, 4]) [zq 4 (.mv (zi 0))]
def c15_3 : C := .reg (some [0, 2, 3, 4, 12]) [zq 6 (.mv 4),
zq 7 (.mv 0),
zq 8 (.bin .lss 6 7),
zq 9 (.mv 8),
zg 10 9 true (.mv 4),
zg 11 9 true (.bin .lss 10 (zi 49)),
zq 12 (.pick 9 11 (.k (.bool false)))]
def c15_4 : C := .reg (some [0, 2, 3, 4]) [zq 15 (.mv 4),
zq 16 (.mv 4),
zq 17 (.bin .rem 16 (zi 4)),
zq 18 (.bin .add (zi 1) 17),
zq 19 (.mv 4),
zq 20 (.mv 4),
zq 21 (.bin .add (zi 20) 20),
zq 22 (.bld (.agg 42 [(.int .i64 0), (.int .i64 0), (.int .i64 0)]) [(0, 18), (1, 19), (2, 21)]),
zq 23 (.iad 48 49 42 3 15),
zw (.st 42 23 22)]
def c15_5 : C := .reg (some [0, 2, 3, 4]) [zq 13 (.mv 4),
zq 14 (.bin .add 13 (zi 1)),
zq 4 (.mv 14)]
def c15_6 : C := .reg (some [2]) [zq 24 (.ld 48 3),
zw (.st 48 2 24)]
def b_steadfastlaw10_table_0 : C :=
    .seq (.seq (c15_3) (
    .cond (.t 12) (
      .skip) (
      .exit 0))) (
    .seq (.block 1 (
      c15_4)) (
    c15_5))
/-- steadfast/steadfastlaw10.table -/
@[go_sem] def fc_steadfastlaw10_table : Fc := ⟨1,
  .seq (c15_0) (
  .seq (c15_1) (
  .seq (.seq (c15_2) (
  .block 0 (
    .loop [0, 2, 3, 4] b_steadfastlaw10_table_0))) (
  .seq (c15_6) (
  .ret)))),
  [.cell 2 48]⟩
def c16_0 : C := .reg (some [0]) [zq 0 (.alloc false (.agg 50 (List.replicate 8 (.int .i64 0))))]
def c16_1 : C := .reg (some [0, 1]) [zq 3 (.bld (.agg 50 (List.replicate 8 (.int .i64 0))) []),
zq 1 (.alloc false (.agg 50 (List.replicate 8 (.int .i64 0)))),
zw (.st 50 1 3)]
def c16_2 : C := .reg (some [0, 1, 2]) [zq 2 (.mv (zi 0))]
def c16_3 : C := .reg (some [0, 1, 2, 5]) [zq 4 (.mv 2),
zq 5 (.bin .lss 4 (zi 8))]
def c16_4 : C := .reg (some [0, 1, 2]) [zq 8 (.mv 2),
zq 9 (.mv 2),
zq 10 (.bin .add (zi 10) 9),
zq 11 (.iad 50 8 10 1 8),
zw (.st 10 11 10)]
def c16_5 : C := .reg (some [0, 1, 2]) [zq 6 (.mv 2),
zq 7 (.bin .add 6 (zi 1)),
zq 2 (.mv 7)]
def c16_6 : C := .reg (some [0]) [zq 12 (.ld 50 1),
zw (.st 50 0 12)]
def b_steadfastlaw10_dir_0 : C :=
    .seq (.seq (c16_3) (
    .cond (.t 5) (
      .skip) (
      .exit 0))) (
    .seq (.block 1 (
      c16_4)) (
    c16_5))
/-- steadfast/steadfastlaw10.dir -/
@[go_sem] def fc_steadfastlaw10_dir : Fc := ⟨0,
  .seq (c16_0) (
  .seq (c16_1) (
  .seq (.seq (c16_2) (
  .block 0 (
    .loop [0, 1, 2] b_steadfastlaw10_dir_0))) (
  .seq (c16_6) (
  .ret)))),
  [.cell 0 50]⟩
def c17_0 : C := .reg (some [0, 1]) [zq 4 (.mv (zi 0))]
def c17_1 : C := .reg (some [0, 1, 6]) [zq 5 (.mv 0),
zq 6 (.bin .lss 5 (zi 0))]
def c17_2 : C := .reg (some [0, 1]) [zq 7 (.mv 0),
zq 8 (.bin .add 7 (zi 1)),
zq 9 (.un .neg 8),
zq 0 (.mv 9)]
def c17_3 : C := .reg (some [4]) [zq 10 (.mv 0),
zq 11 (.mv 1),
zq 12 (.bin .rem 10 11),
zq 4 (.mv 12)]
/-- steadfast/steadfastlaw10.kind -/
@[go_sem] def fc_steadfastlaw10_kind : Fc := ⟨2,
  .seq (c17_0) (
  .seq (.seq (c17_1) (
  .cond (.t 6) (
    c17_2) (
    .skip))) (
  .seq (c17_3) (
  .ret))),
  [.t 4]⟩
def c18_0 : C := .reg (some [0]) [zq 2 (.mv (zi 0))]
def c18_1 : C := .reg (some [2]) [zq 3 (.mv 0),
zq 4 (.nilc 3),
zq 5 (.fad 43 1 1 4),
zq 6 (.ld 1 5),
zq 7 (.call (zf f_frames_Frames_Left) [6]),
zq 2 (.mv 7)]
/-- (*steadfast/objects.Store).Left -/
@[go_sem] def fc_objects_Store_Left : Fc := ⟨1,
  .seq (c18_0) (
  .seq (c18_1) (
  .ret)),
  [.t 2]⟩
def c19_0 : C := .reg (some [0, 1, 2, 3]) [zq 8 (.mv (zi 0))]
def c19_1 : C := .reg (some [0, 1, 2, 3, 9]) [zq 12 (.mv 0),
zq 13 (.mv 1),
zq 14 (.call (zf f_objects_Store_is) [12, 13]),
zq 9 (.mv 14)]
def c19_2 : C := .reg (some [0, 1, 2, 3, 9, 15]) [zq 16 (.mv 9),
zq 17 (.bin .eql 16 (zi 1)),
zq 15 (.mv 17)]
def c19_3 : C := .reg (some [0, 1, 2, 3, 9, 15]) [zq 18 (.mv 2),
zq 19 (.bin .lss 18 (zi 0)),
zq 15 (.mv 19)]
def c19_4 : C := .reg (some [0, 1, 2, 3, 9, 15]) [zq 20 (.mv 2),
zq 21 (.bin .geq 20 (zi 8)),
zq 15 (.mv 21)]
def c19_5 : C := .reg (some [8]) [zq 8 (.mv (zi 1))]
def c19_6 : C := .reg (some [0, 1, 2, 3, 9, 22]) [zq 23 (.mv 9),
zq 24 (.bin .neq 23 (zi 0)),
zq 22 (.mv 24)]
def c19_7 : C := .reg (some [8]) [zq 25 (.mv 9),
zq 8 (.mv 25)]
def c19_8 : C := .reg (some [0, 1, 2, 3, 26]) [zq 27 (.mv 0),
zq 28 (.mv 1),
zq 29 (.call (zf f_objects_Store_own) [27, 28]),
zq 26 (.mv 29)]
def c19_9 : C := .regd (some [8]) [zq 30 (.mv 0),
zq 31 (.nilc 30),
zq 32 (.fad 43 0 1 31),
zq 33 (.ld 1 32),
zq 34 (.mv 0),
zq 35 (.mv 1),
zq 36 (.nilc 34),
zq 37 (.fad 43 2 48 36),
zq 38 (.iad 48 49 42 37 35),
zq 39 (.fad 42 2 10 38),
zq 40 (.ld 10 39),
zq 41 (.mv 2),
zq 42 (.mv 3),
zq 43 (.call (zf f_nvm_Memory_Store) [33, 40, 41, 42]),
zq 8 (.mv 43)]
def c19_10 : C := .reg (some [0, 1, 2, 3, 44]) [zq 45 (.mv 0),
zq 46 (.nilc 45),
zq 47 (.fad 43 1 1 46),
zq 48 (.ld 1 47),
zq 49 (.call (zf f_frames_Frames_Left) [48]),
zq 50 (.bin .eql 49 (zi 0)),
zq 44 (.mv 50)]
def c19_11 : C := .reg (some [8]) [zq 8 (.mv (zi 10))]
def c19_12 : C := .regd (some [0, 1, 2, 3, 9, 10]) [zq 52 (.mv 0),
zq 53 (.nilc 52),
zq 54 (.fad 43 0 1 53),
zq 55 (.ld 1 54),
zq 56 (.mv 0),
zq 57 (.mv 1),
zq 58 (.nilc 56),
zq 59 (.fad 43 2 48 58),
zq 60 (.iad 48 49 42 59 57),
zq 61 (.fad 42 2 10 60),
zq 62 (.ld 10 61),
zq 63 (.pcall (zf f_nvm_Memory_Load) [55, 62]),
zq 51 (.mv 63),
zq 64 (.ext 51 0),
zq 65 (.ext 51 1),
zq 10 (.alloc false (.agg 24 (List.replicate 8 (.int .u64 0)))),
zw (.st 24 10 64),
zq 9 (.mv 65)]
def c19_13 : C := .reg (some [0, 1, 2, 3, 9, 10, 67]) [zq 66 (.mv 9),
zq 67 (.bin .neq 66 (zi 0))]
def c19_14 : C := .reg (some [8]) [zq 68 (.mv 9),
zq 8 (.mv 68)]
def c19_15 : C := .reg (some [0, 1, 10]) [zq 69 (.mv 2),
zq 70 (.mv 3),
zq 71 (.iad 24 8 18 10 69),
zw (.st 18 71 70)]
def c19_16 : C := .reg (some [0, 1, 9, 11]) [zq 73 (.mv 0),
zq 74 (.ld 24 10),
zq 75 (.call (zf f_objects_Store_lay) [73, 74]),
zq 72 (.mv 75),
zq 76 (.ext 72 0),
zq 77 (.ext 72 1),
zq 11 (.mv 76),
zq 9 (.mv 77)]
def c19_17 : C := .reg (some [0, 1, 9, 11, 79]) [zq 78 (.mv 9),
zq 79 (.bin .neq 78 (zi 0))]
def c19_18 : C := .reg (some [8]) [zq 80 (.mv 9),
zq 8 (.mv 80)]
def c19_19 : C := .reg (some []) [zq 81 (.mv 0),
zq 82 (.mv 1),
zq 83 (.mv 11),
zq 84 (.nilc 81),
zq 85 (.fad 43 2 48 84),
zq 86 (.iad 48 49 42 85 82),
zq 87 (.fad 42 2 10 86),
zw (.st 10 87 83)]
def c19_20 : C := .reg (some [8]) [zq 8 (.mv (zi 0))]
/-- (*steadfast/objects.Store).Set -/
@[go_sem] def fc_objects_Store_Set : Fc := ⟨4,
  .seq (c19_0) (
  .seq (c19_1) (
  .seq (.block 0 (
    .seq (.seq (c19_2) (
    .cond (.t 15) (
      .skip) (
      .seq (c19_3) (
      .cond (.t 15) (
        .skip) (
        c19_4))))) (
    .cond (.t 15) (
      .seq (c19_5) (
      .ret)) (
      .seq (c19_6) (
      .cond (.t 22) (
        .seq (c19_7) (
        .ret)) (
        .seq (c19_8) (
        .cond (.t 26) (
          .seq (c19_9) (
          .ret)) (
          .seq (c19_10) (
          .cond (.t 44) (
            .seq (c19_11) (
            .ret)) (
            .skip)))))))))) (
  .seq (c19_12) (
  .seq (.seq (c19_13) (
  .cond (.t 67) (
    .seq (c19_14) (
    .ret)) (
    .skip))) (
  .seq (c19_15) (
  .seq (c19_16) (
  .seq (.seq (c19_17) (
  .cond (.t 79) (
    .seq (c19_18) (
    .ret)) (
    .skip))) (
  .seq (c19_19) (
  .seq (c19_20) (
  .ret)))))))))),
  [.t 8]⟩
def c20_0 : C := .reg (some [0, 1, 4]) [zq 4 (.alloc false (.agg 26 [(.int .i64 0), (.int .i64 0), (.agg 24 (List.replicate 8 (.int .u64 0)))])),
zq 5 (.mv (zi 0))]
def c20_1 : C := .reg (some [0, 1, 4, 6]) [zq 10 (.mv 0),
zq 11 (.mv 1),
zq 12 (.call (zf f_objects_Store_is) [10, 11]),
zq 6 (.mv 12)]
def c20_2 : C := .reg (some [0, 1, 4, 6, 14]) [zq 13 (.mv 6),
zq 14 (.bin .neq 13 (zi 0))]
def c20_3 : C := .reg (some [4, 5]) [zq 15 (.bld (.agg 26 [(.int .i64 0), (.int .i64 0), (.agg 24 (List.replicate 8 (.int .u64 0)))]) []),
zq 16 (.mv 6),
zw (.st 26 4 15),
zq 5 (.mv 16)]
def c20_4 : C := .reg (some [0, 4, 7]) [zq 17 (.mv 0),
zq 18 (.mv 1),
zq 19 (.nilc 17),
zq 20 (.fad 43 2 48 19),
zq 21 (.iad 48 49 42 20 18),
zq 22 (.ld 42 21),
zq 7 (.alloc false (.agg 42 [(.int .i64 0), (.int .i64 0), (.int .i64 0)])),
zw (.st 42 7 22)]
def c20_5 : C := .regd (some [4, 7, 8, 9]) [zq 24 (.mv 0),
zq 25 (.nilc 24),
zq 26 (.fad 43 0 1 25),
zq 27 (.ld 1 26),
zq 28 (.fad 42 2 10 7),
zq 29 (.ld 10 28),
zq 30 (.pcall (zf f_nvm_Memory_Load) [27, 29]),
zq 23 (.mv 30),
zq 31 (.ext 23 0),
zq 32 (.ext 23 1),
zq 8 (.alloc false (.agg 24 (List.replicate 8 (.int .u64 0)))),
zw (.st 24 8 31),
zq 9 (.mv 32)]
def c20_6 : C := .reg (some [4, 7, 8, 9, 34]) [zq 33 (.mv 9),
zq 34 (.bin .neq 33 (zi 0))]
def c20_7 : C := .reg (some [4, 5]) [zq 35 (.bld (.agg 26 [(.int .i64 0), (.int .i64 0), (.agg 24 (List.replicate 8 (.int .u64 0)))]) []),
zq 36 (.mv 9),
zw (.st 26 4 35),
zq 5 (.mv 36)]
def c20_8 : C := .reg (some [4, 5]) [zq 37 (.fad 42 0 10 7),
zq 38 (.ld 10 37),
zq 39 (.fad 42 1 10 7),
zq 40 (.ld 10 39),
zq 41 (.ld 24 8),
zq 42 (.bld (.agg 26 [(.int .i64 0), (.int .i64 0), (.agg 24 (List.replicate 8 (.int .u64 0)))]) [(0, 38), (1, 40), (2, 41)]),
zw (.st 26 4 42),
zq 5 (.mv (zi 0))]
/-- (*steadfast/objects.Store).Get -/
@[go_sem] def fc_objects_Store_Get : Fc := ⟨2,
  .seq (c20_0) (
  .seq (.seq (c20_1) (
  .seq (c20_2) (
  .cond (.t 14) (
    .seq (c20_3) (
    .ret)) (
    .skip)))) (
  .seq (c20_4) (
  .seq (c20_5) (
  .seq (.seq (c20_6) (
  .cond (.t 34) (
    .seq (c20_7) (
    .ret)) (
    .skip))) (
  .seq (c20_8) (
  .ret)))))),
  [.cell 4 26, .t 5]⟩
def c21_0 : C := .reg (some [0, 2]) [zq 2 (.alloc false (.agg 48 (List.replicate 49 (.agg 42 [(.int .i64 0), (.int .i64 0), (.int .i64 0)]))))]
def c21_1 : C := .reg (some [2]) [zq 3 (.mv 0),
zq 4 (.nilc 3),
zq 5 (.fad 43 2 48 4),
zq 6 (.ld 48 5),
zw (.st 48 2 6)]
/-- (*steadfast/objects.Store).Table -/
@[go_sem] def fc_objects_Store_Table : Fc := ⟨1,
  .seq (c21_0) (
  .seq (c21_1) (
  .ret)),
  [.cell 2 48]⟩
def c22_0 : C := .reg (some [0]) [zq 2 (.mv (zi 0))]
def c22_1 : C := .reg (some [0, 6]) [zq 3 (.mv 0),
zq 4 (.nilc 3),
zq 5 (.fad 43 6 0 4),
zq 6 (.ld 0 5)]
def c22_2 : C := .reg (some [2]) [zq 2 (.mv (zi 3))]
def c22_3 : C := .reg (some [0]) [zq 7 (.mv 0),
zq 8 (.mv 0),
zq 9 (.mv 0),
zq 10 (.nilc 9),
zq 11 (.fad 43 2 48 10),
zq 12 (.ld 48 11),
zq 13 (.nilc 7),
zq 14 (.fad 43 5 48 13),
zw (.st 48 14 12),
zq 15 (.nilc 8),
zq 16 (.fad 43 6 0 15),
zw (.st 0 16 (.k (.bool true)))]
def c22_4 : C := .reg (some []) [zq 17 (.mv 0),
zq 18 (.call (zf f_objects_Store_share) [17])]
def c22_5 : C := .reg (some [2]) [zq 2 (.mv (zi 0))]
/-- (*steadfast/objects.Store).Mark -/
@[go_sem] def fc_objects_Store_Mark : Fc := ⟨1,
  .seq (c22_0) (
  .seq (.seq (c22_1) (
  .cond (.t 6) (
    .seq (c22_2) (
    .ret)) (
    .skip))) (
  .seq (c22_3) (
  .seq (c22_4) (
  .seq (c22_5) (
  .ret))))),
  [.t 2]⟩
def c23_0 : C := .reg (some [0]) [zq 2 (.mv (zi 0)),
zq 3 (.mv (zi 0))]
def c23_1 : C := .reg (some [2, 3]) [zq 4 (.mv 0),
zq 5 (.nilc 4),
zq 6 (.fad 43 1 1 5),
zq 7 (.ld 1 6),
zq 8 (.call (zf f_frames_Frames_Alloc) [7]),
zq 9 (.ext 8 0),
zq 10 (.ext 8 1),
zq 2 (.mv 9),
zq 3 (.mv 10)]
/-- (*steadfast/objects.Store).Take -/
@[go_sem] def fc_objects_Store_Take : Fc := ⟨1,
  .seq (c23_0) (
  .seq (c23_1) (
  .ret)),
  [.t 2, .t 3]⟩
def c24_0 : C := .reg (some [0, 1, 2]) [zq 6 (.mv (.k (.bool false)))]
def c24_1 : C := .reg (some [0, 1, 2, 7]) [zq 7 (.alloc false (.agg 32 (List.replicate 49 (.bool false))))]
def c24_2 : C := .reg (some [0, 1, 2, 7, 8]) [zq 11 (.mv 0),
zq 12 (.nilc 11),
zq 13 (.fad 43 1 1 12),
zq 14 (.ld 1 13),
zq 15 (.call (zf f_frames_Frames_Left) [14]),
zq 8 (.mv 15)]
def c24_3 : C := .reg (some [0, 2, 7, 8, 16, 17, 18]) [zq 16 (.mv 1),
zq 17 (.len false 16),
zq 18 (.mv (zi 0))]
def c24_4 : C := .reg (some [0, 2, 7, 8, 16, 17, 18, 19]) [zq 19 (.bin .lss 18 17)]
def c24_5 : C := .reg (some [0, 2, 7, 8, 10, 16, 17, 18]) [zq 20 (.sad 10 16 18),
zq 21 (.ld 10 20),
zq 10 (.mv 21)]
def c24_6 : C := .reg (some [0, 2, 7, 8, 10, 16, 17, 18, 37]) [zq 22 (.mv 0),
zq 23 (.mv 10),
zq 24 (.call (zf f_objects_Store_is) [22, 23]),
zq 25 (.bin .eql 24 (zi 0)),
zq 26 (.mv 25),
zg 27 26 true (.mv 0),
zg 28 26 true (.mv 10),
zg 29 26 true (.call (zf f_objects_Store_own) [27, 28]),
zg 30 26 true (.un .not 29),
zq 31 (.pick 26 30 (.k (.bool false))),
zq 32 (.mv 31),
zg 33 32 true (.mv 10),
zg 34 32 true (.iad 32 49 0 7 33),
zg 35 32 true (.ld 0 34),
zg 36 32 true (.un .not 35),
zq 37 (.pick 32 36 (.k (.bool false)))]
def c24_7 : C := .reg (some [0, 2, 7, 8, 16, 17, 18]) [zq 38 (.mv 10),
zq 39 (.iad 32 49 0 7 38),
zw (.st 0 39 (.k (.bool true)))]
def c24_8 : C := .reg (some [0, 2, 7, 8, 16, 17, 18]) [zq 40 (.mv 8),
zq 41 (.bin .sub 40 (zi 1)),
zq 8 (.mv 41)]
def c24_9 : C := .reg (some [0, 2, 7, 8, 16, 17, 18]) [zq 42 (.bin .add 18 (zi 1)),
zq 18 (.mv 42)]
def c24_10 : C := .reg (some [6]) [zq 43 (.mv 2),
zq 44 (.bin .geq 43 (zi 0)),
zq 45 (.mv 44),
zg 46 45 true (.mv 8),
zg 47 45 true (.mv 2),
zg 48 45 true (.bin .geq 46 47),
zq 49 (.pick 45 48 (.k (.bool false))),
zq 6 (.mv 49)]
def b_objects_Store_Room_0 : C :=
    .seq (c24_4) (
    .seq (.cond (.t 19) (
      .skip) (
      .exit 0)) (
    .seq (.block 1 (
      .seq (c24_5) (
      .seq (c24_6) (
      .cond (.t 37) (
        .seq (c24_7) (
        c24_8)) (
        .skip))))) (
    c24_9)))
/-- (*steadfast/objects.Store).Room -/
@[go_sem] def fc_objects_Store_Room : Fc := ⟨3,
  .seq (c24_0) (
  .seq (c24_1) (
  .seq (c24_2) (
  .seq (.seq (c24_3) (
  .block 0 (
    .loop [0, 2, 7, 8, 16, 17, 18] b_objects_Store_Room_0))) (
  .seq (c24_10) (
  .ret))))),
  [.t 6]⟩
def c25_0 : C := .reg (some [0, 1]) [zq 4 (.mv (zi 0)),
zq 5 (.mv (zi 0))]
def c25_1 : C := .reg (some [0, 1, 6, 7, 8]) [zq 11 (.mv 0),
zq 12 (.mv 1),
zq 13 (.call (zf f_objects_Store_Next) [11, 12]),
zq 10 (.mv 13),
zq 14 (.ext 10 0),
zq 15 (.ext 10 1),
zq 16 (.ext 10 2),
zq 6 (.mv 14),
zq 7 (.mv 15),
zq 8 (.mv 16)]
def c25_2 : C := .reg (some [0, 1, 6, 7, 8, 18]) [zq 17 (.mv 8),
zq 18 (.bin .neq 17 (zi 0))]
def c25_3 : C := .reg (some [4, 5]) [zq 19 (.mv 8),
zq 4 (.mv (zi 0)),
zq 5 (.mv 19)]
def c25_4 : C := .reg (some [0, 1, 6, 7, 8, 9]) [zq 21 (.mv 0),
zq 22 (.bld (.agg 24 (List.replicate 8 (.int .u64 0))) []),
zq 23 (.call (zf f_objects_Store_lay) [21, 22]),
zq 20 (.mv 23),
zq 24 (.ext 20 0),
zq 25 (.ext 20 1),
zq 9 (.mv 24),
zq 8 (.mv 25)]
def c25_5 : C := .reg (some [0, 1, 6, 7, 8, 9, 27]) [zq 26 (.mv 8),
zq 27 (.bin .neq 26 (zi 0))]
def c25_6 : C := .reg (some [4, 5]) [zq 28 (.mv 8),
zq 4 (.mv (zi 0)),
zq 5 (.mv 28)]
def c25_7 : C := .reg (some [6]) [zq 29 (.mv 0),
zq 30 (.mv 6),
zq 31 (.mv 1),
zq 32 (.mv 7),
zq 33 (.mv 9),
zq 34 (.bld (.agg 42 [(.int .i64 0), (.int .i64 0), (.int .i64 0)]) [(0, 31), (1, 32), (2, 33)]),
zq 35 (.nilc 29),
zq 36 (.fad 43 2 48 35),
zq 37 (.iad 48 49 42 36 30),
zw (.st 42 37 34)]
def c25_8 : C := .reg (some [4, 5]) [zq 38 (.mv 6),
zq 4 (.mv 38),
zq 5 (.mv (zi 0))]
/-- (*steadfast/objects.Store).Make -/
@[go_sem] def fc_objects_Store_Make : Fc := ⟨2,
  .seq (c25_0) (
  .seq (c25_1) (
  .seq (.seq (c25_2) (
  .cond (.t 18) (
    .seq (c25_3) (
    .ret)) (
    .skip))) (
  .seq (c25_4) (
  .seq (.seq (c25_5) (
  .cond (.t 27) (
    .seq (c25_6) (
    .ret)) (
    .skip))) (
  .seq (c25_7) (
  .seq (c25_8) (
  .ret))))))),
  [.t 4, .t 5]⟩
def c26_0 : C := .reg (some [0, 1]) [zq 4 (.mv (zi 0))]
def c26_1 : C := .reg (some [0, 1, 5]) [zq 6 (.mv 0),
zq 7 (.mv 1),
zq 8 (.call (zf f_objects_Store_is) [6, 7]),
zq 5 (.mv 8)]
def c26_2 : C := .reg (some [0, 1, 5, 10]) [zq 9 (.mv 5),
zq 10 (.bin .neq 9 (zi 0))]
def c26_3 : C := .reg (some [4]) [zq 11 (.mv 5),
zq 4 (.mv 11)]
def c26_4 : C := .reg (some [0, 1, 14]) [zq 12 (.mv 0),
zq 13 (.mv 1),
zq 14 (.call (zf f_objects_Store_own) [12, 13])]
def c26_5 : C := .regd (some [0, 1]) [zq 15 (.mv 0),
zq 16 (.nilc 15),
zq 17 (.fad 43 1 1 16),
zq 18 (.ld 1 17),
zq 19 (.mv 0),
zq 20 (.mv 1),
zq 21 (.nilc 19),
zq 22 (.fad 43 2 48 21),
zq 23 (.iad 48 49 42 22 20),
zq 24 (.fad 42 2 10 23),
zq 25 (.ld 10 24),
zq 26 (.call (zf f_frames_Frames_Free) [18, 25])]
def c26_6 : C := .regd (some []) [zq 28 (.mv 0),
zq 29 (.mv 1),
zq 30 (.mv 0),
zq 31 (.mv 1),
zq 32 (.nilc 30),
zq 33 (.fad 43 2 48 32),
zq 34 (.iad 48 49 42 33 31),
zq 35 (.ld 42 34),
zq 36 (.pcall (zf f_entry_End) [35]),
zq 27 (.mv 36),
zq 37 (.ext 27 0),
zq 38 (.ext 27 1),
zq 39 (.nilc 28),
zq 40 (.fad 43 2 48 39),
zq 41 (.iad 48 49 42 40 29),
zw (.st 42 41 37)]
def c26_7 : C := .reg (some [4]) [zq 4 (.mv (zi 0))]
/-- (*steadfast/objects.Store).End -/
@[go_sem] def fc_objects_Store_End : Fc := ⟨2,
  .seq (c26_0) (
  .seq (.seq (c26_1) (
  .seq (c26_2) (
  .cond (.t 10) (
    .seq (c26_3) (
    .ret)) (
    .skip)))) (
  .seq (.seq (c26_4) (
  .cond (.t 14) (
    c26_5) (
    .skip))) (
  .seq (c26_6) (
  .seq (c26_7) (
  .ret))))),
  [.t 4]⟩
def c27_0 : C := .reg (some [0, 1, 4]) [zq 4 (.alloc false (.agg 24 (List.replicate 8 (.int .u64 0)))),
zq 5 (.mv (zi 0))]
def c27_1 : C := .reg (some [0, 4, 6]) [zq 7 (.mv 0),
zq 8 (.mv 1),
zq 9 (.call (zf f_nvm_Memory_at) [7, 8]),
zq 6 (.mv 9)]
def c27_2 : C := .reg (some [0, 4, 6, 10]) [zq 11 (.mv 6),
zq 12 (.eq false 1 11 (.k .nilp)),
zq 10 (.mv 12)]
def c27_3 : C := .reg (some [4, 5]) [zq 13 (.bld (.agg 24 (List.replicate 8 (.int .u64 0))) []),
zw (.st 24 4 13),
zq 5 (.mv (zi 1))]
def c27_4 : C := .reg (some [4, 6, 14]) [zq 15 (.mv 0),
zq 16 (.nilc 15),
zq 17 (.fad 59 1 0 16),
zq 18 (.ld 0 17),
zq 14 (.mv 18)]
def c27_5 : C := .reg (some [4, 5]) [zq 19 (.bld (.agg 24 (List.replicate 8 (.int .u64 0))) []),
zw (.st 24 4 19),
zq 5 (.mv (zi 4))]
def c27_6 : C := .reg (some [4, 5]) [zq 20 (.mv 6),
zq 21 (.nilc 20),
zq 22 (.fad 55 0 24 21),
zq 23 (.ld 24 22),
zw (.st 24 4 23),
zq 5 (.mv (zi 0))]
/-- (*steadfast/nvm.Memory).Load -/
@[go_sem] def fc_nvm_Memory_Load : Fc := ⟨2,
  .seq (c27_0) (
  .seq (c27_1) (
  .seq (.block 0 (
    .seq (c27_2) (
    .cond (.t 10) (
      .seq (c27_3) (
      .ret)) (
      .seq (c27_4) (
      .cond (.t 14) (
        .seq (c27_5) (
        .ret)) (
        .skip)))))) (
  .seq (c27_6) (
  .ret)))),
  [.cell 4 24, .t 5]⟩
def c28_0 : C := .reg (some [0, 2, 3]) [zq 2 (.alloc false (.agg 48 (List.replicate 49 (.agg 42 [(.int .i64 0), (.int .i64 0), (.int .i64 0)])))),
zq 3 (.alloc false (.agg 50 (List.replicate 8 (.int .i64 0))))]
def c28_1 : C := .regd (some [2, 3]) [zq 4 (.mv 0),
zq 5 (.nilc 4),
zq 6 (.fad 43 3 48 5),
zq 7 (.ld 48 6),
zq 8 (.mv 0),
zq 9 (.nilc 8),
zq 10 (.fad 43 4 50 9),
zq 11 (.lda 50 10 0),
zw (.sta 48 2 7 [0]),
zw (.st 50 3 11)]
/-- (*steadfast/objects.Store).Base -/
@[go_sem] def fc_objects_Store_Base : Fc := ⟨1,
  .seq (c28_0) (
  .seq (c28_1) (
  .ret)),
  [.cell 2 48, .cell 3 50]⟩
def c29_0 : C := .reg (some [0, 2]) [zq 2 (.alloc false (.agg 48 (List.replicate 49 (.agg 42 [(.int .i64 0), (.int .i64 0), (.int .i64 0)])))),
zq 3 (.mv (.k (.bool false)))]
def c29_1 : C := .reg (some [0, 2, 8]) [zq 4 (.mv 0),
zq 5 (.nilc 4),
zq 6 (.fad 43 6 0 5),
zq 7 (.ld 0 6),
zq 8 (.un .not 7)]
def c29_2 : C := .reg (some [2, 3]) [zq 9 (.ld 48 2),
zw (.st 48 2 9),
zq 3 (.mv (.k (.bool false)))]
def c29_3 : C := .reg (some [2, 3]) [zq 10 (.mv 0),
zq 11 (.nilc 10),
zq 12 (.fad 43 5 48 11),
zq 13 (.ld 48 12),
zw (.st 48 2 13),
zq 3 (.mv (.k (.bool true)))]
/-- (*steadfast/objects.Store).Marked -/
@[go_sem] def fc_objects_Store_Marked : Fc := ⟨1,
  .seq (c29_0) (
  .seq (.seq (c29_1) (
  .cond (.t 8) (
    .seq (c29_2) (
    .ret)) (
    .skip))) (
  .seq (c29_3) (
  .ret))),
  [.cell 2 48, .t 3]⟩
def c30_0 : C := .reg (some [0, 1]) [zq 4 (.mv (zi 0)),
zq 5 (.mv (zi 0))]
def c30_1 : C := .reg (some [0, 1, 6, 7]) [zq 10 (.mv 1),
zq 11 (.call (zf f_caps_Of) [10]),
zq 9 (.mv 11),
zq 12 (.ext 9 0),
zq 13 (.ext 9 1),
zq 6 (.alloc false (.agg 40 [(.int .i64 0), (.int .i64 0), (.int .i64 0), (.int .i64 0), (.int .i64 0)])),
zw (.st 40 6 12),
zq 7 (.mv 13)]
def c30_2 : C := .reg (some [0, 1, 6, 15]) [zq 14 (.mv 7),
zq 15 (.un .not 14)]
def c30_3 : C := .reg (some [4, 5]) [zq 4 (.mv (zi 0)),
zq 5 (.mv (zi 31))]
def c30_4 : C := .regd (some [6, 8]) [zq 16 (.mv 0),
zq 17 (.fad 40 2 10 6),
zq 18 (.ld 10 17),
zq 19 (.nilc 16),
zq 20 (.fad 43 2 48 19),
zq 21 (.iad 48 49 42 20 18),
zq 22 (.ld 42 21),
zq 23 (.fad 40 2 10 6),
zq 24 (.ld 10 23),
zq 25 (.mv 1),
zq 26 (.pcall (zf f_entry_Names) [22, 24, 25]),
zq 8 (.mv 26)]
def c30_5 : C := .reg (some [6, 8, 28]) [zq 27 (.mv 8),
zq 28 (.bin .neq 27 (zi 0))]
def c30_6 : C := .reg (some [4, 5]) [zq 29 (.mv 8),
zq 4 (.mv (zi 0)),
zq 5 (.mv 29)]
def c30_7 : C := .reg (some [4, 5]) [zq 30 (.fad 40 2 10 6),
zq 31 (.ld 10 30),
zq 4 (.mv 31),
zq 5 (.mv (zi 0))]
/-- (*steadfast/objects.Store).Names -/
@[go_sem] def fc_objects_Store_Names : Fc := ⟨2,
  .seq (c30_0) (
  .seq (c30_1) (
  .seq (.seq (c30_2) (
  .cond (.t 15) (
    .seq (c30_3) (
    .ret)) (
    .skip))) (
  .seq (.seq (c30_4) (
  .seq (c30_5) (
  .cond (.t 28) (
    .seq (c30_6) (
    .ret)) (
    .skip)))) (
  .seq (c30_7) (
  .ret))))),
  [.t 4, .t 5]⟩
def c31_0 : C := .reg (some [1]) [zq 1 (.box false 0),
zq 2 (.mv (.k (.int .u64 0))),
zq 3 (.mv (zi 0))]
def c31_1 : C := .reg (some [1, 6]) [zq 4 (.ld 40 1),
zq 5 (.call (zf f_caps_may) [4]),
zq 6 (.un .not 5)]
def c31_2 : C := .reg (some [2, 3]) [zq 2 (.mv (.k (.int .u64 0))),
zq 3 (.mv (zi 1))]
def c31_3 : C := .reg (some [2, 3]) [zq 7 (.fad 40 0 10 1),
zq 8 (.ld 10 7),
zq 9 (.conv .u64 8),
zq 10 (.fad 40 1 10 1),
zq 11 (.ld 10 10),
zq 12 (.conv .u64 11),
zq 13 (.bin .shl 12 (.k (.int .u64 4))),
zq 14 (.bin .or 9 13),
zq 15 (.fad 40 2 10 1),
zq 16 (.ld 10 15),
zq 17 (.conv .u64 16),
zq 18 (.bin .shl 17 (.k (.int .u64 8))),
zq 19 (.bin .or 14 18),
zq 20 (.fad 40 3 10 1),
zq 21 (.ld 10 20),
zq 22 (.conv .u64 21),
zq 23 (.bin .shl 22 (.k (.int .u64 24))),
zq 24 (.bin .or 19 23),
zq 25 (.fad 40 4 10 1),
zq 26 (.ld 10 25),
zq 27 (.conv .u64 26),
zq 28 (.bin .shl 27 (.k (.int .u64 48))),
zq 29 (.bin .or 24 28),
zq 2 (.mv 29),
zq 3 (.mv (zi 0))]
/-- steadfast/caps.Word -/
@[go_sem] def fc_caps_Word : Fc := ⟨1,
  .seq (c31_0) (
  .seq (.seq (c31_1) (
  .cond (.t 6) (
    .seq (c31_2) (
    .ret)) (
    .skip))) (
  .seq (c31_3) (
  .ret))),
  [.t 2, .t 3]⟩
def c32_0 : C := .reg (some [0, 3]) [zq 3 (.box false 1),
zq 4 (.mv (zi 0))]
def c32_1 : C := .reg (some [0, 3, 9]) [zq 5 (.mv 0),
zq 6 (.nilc 5),
zq 7 (.fad 43 6 0 6),
zq 8 (.ld 0 7),
zq 9 (.un .not 8)]
def c32_2 : C := .reg (some [4]) [zq 4 (.mv (zi 3))]
def c32_3 : C := .regd (some [0]) [zq 10 (.mv 0),
zq 11 (.mv 0),
zq 12 (.mv 0),
zq 13 (.nilc 12),
zq 14 (.fad 43 5 48 13),
zq 15 (.ld 48 14),
zq 16 (.ld 50 3),
zq 17 (.nilc 10),
zq 18 (.fad 43 3 48 17),
zw (.sta 48 18 15 [3]),
zq 19 (.nilc 11),
zq 20 (.fad 43 4 50 19),
zw (.st 50 20 16)]
def c32_4 : C := .reg (some []) [zq 21 (.mv 0),
zq 22 (.call (zf f_objects_Store_unmark) [21])]
def c32_5 : C := .reg (some [4]) [zq 4 (.mv (zi 0))]
/-- (*steadfast/objects.Store).Commit -/
@[go_sem] def fc_objects_Store_Commit : Fc := ⟨2,
  .seq (c32_0) (
  .seq (.seq (c32_1) (
  .cond (.t 9) (
    .seq (c32_2) (
    .ret)) (
    .skip))) (
  .seq (c32_3) (
  .seq (c32_4) (
  .seq (c32_5) (
  .ret))))),
  [.t 4]⟩
def c33_0 : C := .reg (some [0]) [zq 2 (.mv (zi 0))]
def c33_1 : C := .reg (some [0, 7]) [zq 3 (.mv 0),
zq 4 (.nilc 3),
zq 5 (.fad 43 6 0 4),
zq 6 (.ld 0 5),
zq 7 (.un .not 6)]
def c33_2 : C := .reg (some [2]) [zq 2 (.mv (zi 3))]
def c33_3 : C := .reg (some []) [zq 8 (.mv 0),
zq 9 (.call (zf f_objects_Store_unmark) [8])]
def c33_4 : C := .reg (some [2]) [zq 2 (.mv (zi 0))]
/-- (*steadfast/objects.Store).Abort -/
@[go_sem] def fc_objects_Store_Abort : Fc := ⟨1,
  .seq (c33_0) (
  .seq (.seq (c33_1) (
  .cond (.t 7) (
    .seq (c33_2) (
    .ret)) (
    .skip))) (
  .seq (c33_3) (
  .seq (c33_4) (
  .ret)))),
  [.t 2]⟩
def c34_0 : C := .reg (some [0, 1]) [zq 4 (.mv (zi 0)),
zq 5 (.mv (zi 0)),
zq 6 (.mv (zi 0))]
def c34_1 : C := .reg (some [0, 9]) [zq 9 (.mv 1)]
def c34_2 : C := .reg (some [0, 9, 10]) [zq 11 (.bin .eql 9 (zi 1)),
zq 10 (.mv 11)]
def c34_3 : C := .reg (some [0, 9, 10]) [zq 12 (.bin .eql 9 (zi 2)),
zq 10 (.mv 12)]
def c34_4 : C := .reg (some [0, 10]) [zq 13 (.bin .eql 9 (zi 4)),
zq 10 (.mv 13)]
def c34_5 : C := .reg (some [4, 5, 6]) [zq 4 (.mv (zi 0)),
zq 5 (.mv (zi 0)),
zq 6 (.mv (zi 1))]
def c34_6 : C := .reg (some [17, 18]) [zq 14 (.mv 0),
zq 15 (.nilc 14),
zq 16 (.fad 43 2 48 15),
zq 17 (.ld 48 16),
zq 18 (.mv (zi 0))]
def c34_7 : C := .reg (some [17, 18, 19]) [zq 19 (.bin .lss 18 (zi 49))]
def c34_8 : C := .reg (some [7, 8, 17, 18]) [zq 20 (.mv 18),
zq 21 (.idx 48 49 17 18),
zq 8 (.alloc false (.agg 42 [(.int .i64 0), (.int .i64 0), (.int .i64 0)])),
zq 7 (.mv 20),
zw (.st 42 8 21)]
def c34_9 : C := .reg (some [7, 8, 17, 18, 23]) [zq 22 (.ld 42 8),
zq 23 (.call (zf f_entry_Open) [22])]
def c34_10 : C := .regd (some [4, 5, 6]) [zq 24 (.mv 7),
zq 25 (.fad 42 1 10 8),
zq 26 (.ld 10 25),
zq 4 (.mv 24),
zq 5 (.mv 26),
zq 6 (.mv (zi 0))]
def c34_11 : C := .reg (some [17, 18]) [zq 27 (.bin .add 18 (zi 1)),
zq 18 (.mv 27)]
def c34_12 : C := .reg (some [4, 5, 6]) [zq 4 (.mv (zi 0)),
zq 5 (.mv (zi 0)),
zq 6 (.mv (zi 34))]
def b_objects_Store_Next_0 : C :=
    .seq (c34_7) (
    .seq (.cond (.t 19) (
      .skip) (
      .exit 1)) (
    .seq (.block 2 (
      .seq (c34_8) (
      .seq (c34_9) (
      .cond (.t 23) (
        .seq (c34_10) (
        .ret)) (
        .skip))))) (
    c34_11)))
/-- (*steadfast/objects.Store).Next -/
@[go_sem] def fc_objects_Store_Next : Fc := ⟨2,
  .seq (c34_0) (
  .seq (.seq (c34_1) (
  .block 0 (
    .seq (.seq (c34_2) (
    .cond (.t 10) (
      .skip) (
      .seq (c34_3) (
      .cond (.t 10) (
        .skip) (
        c34_4))))) (
    .cond (.t 10) (
      .skip) (
      .seq (c34_5) (
      .ret)))))) (
  .seq (.seq (c34_6) (
  .block 1 (
    .loop [17, 18] b_objects_Store_Next_0))) (
  .seq (c34_12) (
  .ret)))),
  [.t 4, .t 5, .t 6]⟩
def c35_0 : C := .reg (some [0]) [zq 2 (.mv (.k .nilp)),
zq 3 (.mv (zi 0))]
def c35_1 : C := .reg (some [0, 11]) [zq 4 (.mv 0),
zq 5 (.len false 4),
zq 6 (.bin .lss 5 (zi 64)),
zq 7 (.mv 6),
zg 8 7 false (.mv 0),
zg 9 7 false (.len false 8),
zg 10 7 false (.bin .gtr 9 (zi 1024)),
zq 11 (.pick 7 (.k (.bool true)) 10)]
def c35_2 : C := .reg (some [2, 3]) [zq 2 (.mv (.k .nilp)),
zq 3 (.mv (zi 1))]
def c35_3 : C := .regd (some [2, 3]) [zq 12 (.bsl true 58 24 (.agg 24 (List.replicate 8 (.int .u64 0))) 0 []),
zq 13 (.mv 0),
zq 14 (.app true 58 24 12 13),
zq 15 (.mv 0),
zq 16 (.len false 15),
zq 17 (.mksl true 53 1 .nils 16 16),
zq 18 (.bld (.agg 33 [.nils, .nils, (.bool false), (.int .i64 0), (.int .i64 0)]) [(0, 14), (1, 17), (3, (zi (-1)))]),
zq 19 (.box true 18),
zq 2 (.mv 19),
zq 3 (.mv (zi 0))]
/-- steadfast/steadfastref03.Of -/
@[go_sem] def fc_steadfastref03_Of : Fc := ⟨1,
  .seq (c35_0) (
  .seq (.seq (c35_1) (
  .cond (.t 11) (
    .seq (c35_2) (
    .ret)) (
    .skip))) (
  .seq (c35_3) (
  .ret))),
  [.t 2, .t 3]⟩
def c36_0 : C := .reg (some [0, 1]) [zq 4 (.mv (.k .nilp)),
zq 5 (.mv (zi 0))]
def c36_1 : C := .reg (some [0, 1, 18]) [zq 8 (.mv 0),
zq 9 (.bin .lss 8 (zi 0)),
zq 10 (.mv 9),
zg 11 10 false (.mv 0),
zg 12 10 false (.mv 1),
zg 13 10 false (.bin .gtr 11 12),
zq 14 (.pick 10 (.k (.bool true)) 13),
zq 15 (.mv 14),
zg 16 15 false (.mv 1),
zg 17 15 false (.bin .gtr 16 (zi 1024)),
zq 18 (.pick 15 (.k (.bool true)) 17)]
def c36_2 : C := .reg (some [4, 5]) [zq 4 (.mv (.k .nilp)),
zq 5 (.mv (zi 1))]
def c36_3 : C := .reg (some [0, 1, 6]) [zq 19 (.mv 0),
zq 20 (.mv 1),
zq 21 (.bld (.agg 80 [(.int .i64 0), (.int .i64 0), (.agg 78 (List.replicate 16 (.int .u64 0))), (.agg 78 (List.replicate 16 (.int .u64 0)))]) [(0, 19), (1, 20)]),
zq 22 (.box true 21),
zq 6 (.mv 22)]
def c36_4 : C := .reg (some [0, 6, 25, 26]) [zq 23 (.mv 1),
zq 24 (.mv 0),
zq 25 (.bin .sub 23 24),
zq 26 (.mv (zi 0))]
def c36_5 : C := .reg (some [0, 6, 25, 26, 27]) [zq 27 (.bin .lss 26 25)]
def c36_6 : C := .reg (some [0, 6, 7, 25, 26]) [zq 28 (.mv 26),
zq 7 (.mv 28)]
def c36_7 : C := .reg (some [0, 6, 25, 26]) [zq 29 (.mv 6),
zq 30 (.nilc 29),
zq 31 (.fad 80 2 78 30),
zq 32 (.mv 0),
zq 33 (.mv 7),
zq 34 (.bin .add 32 33),
zq 35 (.call (zf f_frames_set_turn) [31, 34])]
def c36_8 : C := .reg (some [0, 6, 25, 26]) [zq 36 (.bin .add 26 (zi 1)),
zq 26 (.mv 36)]
def c36_9 : C := .reg (some [4, 5]) [zq 37 (.mv 6),
zq 4 (.mv 37),
zq 5 (.mv (zi 0))]
def b_frames_New_0 : C :=
    .seq (c36_5) (
    .seq (.cond (.t 27) (
      .skip) (
      .exit 0)) (
    .seq (.block 1 (
      .seq (c36_6) (
      c36_7))) (
    c36_8)))
/-- steadfast/frames.New -/
@[go_sem] def fc_frames_New : Fc := ⟨2,
  .seq (c36_0) (
  .seq (.seq (c36_1) (
  .cond (.t 18) (
    .seq (c36_2) (
    .ret)) (
    .skip))) (
  .seq (c36_3) (
  .seq (.seq (c36_4) (
  .block 0 (
    .loop [0, 6, 25, 26] b_frames_New_0))) (
  .seq (c36_9) (
  .ret))))),
  [.t 4, .t 5]⟩
def c37_0 : C := .reg (some [0]) [zq 2 (.mv (zi 0))]
def c37_1 : C := .reg (some [2]) [zq 3 (.mv 0),
zq 4 (.nilc 3),
zq 5 (.fad 59 0 1 4),
zq 6 (.ld 1 5),
zq 7 (.len false 6),
zq 2 (.mv 7)]
/-- (*steadfast/nvm.Memory).Lines -/
@[go_sem] def fc_nvm_Memory_Lines : Fc := ⟨1,
  .seq (c37_0) (
  .seq (c37_1) (
  .ret)),
  [.t 2]⟩
def c38_0 : C := .reg (some [0, 1]) [zq 4 (.mv (zi 0))]
def c38_1 : C := .reg (some [0, 1, 5]) [zq 6 (.mv 0),
zq 7 (.mv 1),
zq 8 (.call (zf f_frames_Frames_in) [6, 7, (zi 0)]),
zq 5 (.mv 8)]
def c38_2 : C := .reg (some [0, 1, 5, 10]) [zq 9 (.mv 5),
zq 10 (.bin .eql 9 (zi 0))]
def c38_3 : C := .reg (some [5]) [zq 11 (.mv 0),
zq 12 (.nilc 11),
zq 13 (.fad 80 2 78 12),
zq 14 (.mv 1),
zq 15 (.call (zf f_frames_set_turn) [13, 14])]
def c38_4 : C := .reg (some [4]) [zq 16 (.mv 5),
zq 4 (.mv 16)]
/-- (*steadfast/frames.Frames).Take -/
@[go_sem] def fc_frames_Frames_Take : Fc := ⟨2,
  .seq (c38_0) (
  .seq (c38_1) (
  .seq (.seq (c38_2) (
  .cond (.t 10) (
    c38_3) (
    .skip))) (
  .seq (c38_4) (
  .ret)))),
  [.t 4]⟩
def c39_0 : C := .reg (some [0]) [zq 2 (.mv 0),
zq 3 (.bld (.agg 82 (List.replicate 1024 (.bool false))) []),
zq 4 (.nilc 2),
zq 5 (.fad 43 7 82 4),
zw (.st 82 5 3)]
def c39_1 : C := .regd (some [0]) [zq 6 (.mv 0),
zq 7 (.nilc 6),
zq 8 (.fad 43 7 82 7),
zq 9 (.mv 0),
zq 10 (.nilc 9),
zq 11 (.fad 43 3 48 10),
zq 12 (.ld 48 11),
zq 13 (.call (zf f_objects_lines_add) [8, 12])]
def c39_2 : C := .reg (some [0, 17]) [zq 14 (.mv 0),
zq 15 (.nilc 14),
zq 16 (.fad 43 6 0 15),
zq 17 (.ld 0 16)]
def c39_3 : C := .regd (some []) [zq 18 (.mv 0),
zq 19 (.nilc 18),
zq 20 (.fad 43 7 82 19),
zq 21 (.mv 0),
zq 22 (.nilc 21),
zq 23 (.fad 43 5 48 22),
zq 24 (.ld 48 23),
zq 25 (.call (zf f_objects_lines_add) [20, 24])]
/-- (*steadfast/objects.Store).share -/
@[go_sem] def fc_objects_Store_share : Fc := ⟨1,
  .seq (c39_0) (
  .seq (c39_1) (
  .seq (c39_2) (
  .cond (.t 17) (
    c39_3) (
    .skip)))),
  []⟩
def c40_0 : C := .reg (some [0, 1]) [zq 4 (.mv (.k .nilp)),
zq 5 (.mv (zi 0))]
def c40_1 : C := .reg (some [0, 1, 16]) [zq 6 (.mv 0),
zq 7 (.bin .lss 6 (zi 0)),
zq 8 (.mv 7),
zg 9 8 false (.mv 0),
zg 10 8 false (.mv 1),
zg 11 8 false (.bin .gtr 9 10),
zq 12 (.pick 8 (.k (.bool true)) 11),
zq 13 (.mv 12),
zg 14 13 false (.mv 1),
zg 15 13 false (.bin .gtr 14 (zi 1024)),
zq 16 (.pick 13 (.k (.bool true)) 15)]
def c40_2 : C := .reg (some [4, 5]) [zq 4 (.mv (.k .nilp)),
zq 5 (.mv (zi 1))]
def c40_3 : C := .reg (some [4, 5]) [zq 17 (.mv 0),
zq 18 (.mv 1),
zq 19 (.mv 0),
zq 20 (.bin .sub 18 19),
zq 21 (.mksl true 38 10 (.int .i64 0) 20 20),
zq 22 (.bld (.agg 21 [(.int .i64 0), .nils]) [(0, 17), (1, 21)]),
zq 23 (.box true 22),
zq 4 (.mv 23),
zq 5 (.mv (zi 0))]
/-- steadfast/steadfastref04.New -/
@[go_sem] def fc_steadfastref04_New : Fc := ⟨2,
  .seq (c40_0) (
  .seq (.seq (c40_1) (
  .cond (.t 16) (
    .seq (c40_2) (
    .ret)) (
    .skip))) (
  .seq (c40_3) (
  .ret))),
  [.t 4, .t 5]⟩
def c41_0 : C := .reg (some [1]) [zq 1 (.box false 0),
zq 2 (.mv (.k .nils))]
def c41_1 : C := .reg (some [1, 3]) [zq 3 (.mv (.k .nils))]
def c41_2 : C := .reg (some [1, 3, 4]) [zq 4 (.mv (zi 0))]
def c41_3 : C := .reg (some [1, 3, 4, 6]) [zq 5 (.mv 4),
zq 6 (.bin .lss 5 (zi 49))]
def c41_4 : C := .reg (some [1, 3, 4, 13]) [zq 9 (.mv 4),
zq 10 (.iad 48 49 42 1 9),
zq 11 (.fad 42 0 10 10),
zq 12 (.ld 10 11),
zq 13 (.bin .neq 12 (zi 0))]
def c41_5 : C := .reg (some [1, 3, 4]) [zq 14 (.mv 3),
zq 15 (.mv 4),
zq 16 (.iad 48 49 42 1 15),
zq 17 (.fad 42 2 10 16),
zq 18 (.ld 10 17),
zq 19 (.bsl false 38 10 (.int .i64 0) 1 [(0, 18)]),
zq 20 (.app true 38 10 14 19),
zq 3 (.mv 20)]
def c41_6 : C := .reg (some [1, 3, 4]) [zq 7 (.mv 4),
zq 8 (.bin .add 7 (zi 1)),
zq 4 (.mv 8)]
def c41_7 : C := .reg (some [2]) [zq 21 (.mv 3),
zq 2 (.mv 21)]
def b_steadfastref10_lines_0 : C :=
    .seq (.seq (c41_3) (
    .cond (.t 6) (
      .skip) (
      .exit 0))) (
    .seq (.block 1 (
      .seq (c41_4) (
      .cond (.t 13) (
        c41_5) (
        .skip)))) (
    c41_6))
/-- steadfast/steadfastref10.lines -/
@[go_sem] def fc_steadfastref10_lines : Fc := ⟨1,
  .seq (c41_0) (
  .seq (c41_1) (
  .seq (.seq (c41_2) (
  .block 0 (
    .loop [1, 3, 4] b_steadfastref10_lines_0))) (
  .seq (c41_7) (
  .ret)))),
  [.t 2]⟩
def c42_0 : C := .reg (some [0, 1]) [zq 4 (.mv (zi 0))]
def c42_1 : C := .reg (some [4]) [zq 5 (.mv 0),
zq 6 (.mv 1),
zq 7 (.call (zf f_steadfastref04_Frames_turn) [5, 6, (zi 0), (zi 1)]),
zq 4 (.mv 7)]
/-- (*steadfast/steadfastref04.Frames).Take -/
@[go_sem] def fc_steadfastref04_Frames_Take : Fc := ⟨2,
  .seq (c42_0) (
  .seq (c42_1) (
  .ret)),
  [.t 4]⟩
def c43_0 : C := .reg (some [0]) [zq 2 (.mv (zi 0))]
def c43_1 : C := .reg (some [0, 3]) [zq 3 (.mv (zi 0))]
def c43_2 : C := .reg (some [0, 3, 4]) [zq 4 (.mv (zi 0))]
def c43_3 : C := .reg (some [0, 3, 4, 11]) [zq 5 (.mv 4),
zq 6 (.mv 0),
zq 7 (.nilc 6),
zq 8 (.fad 21 1 1 7),
zq 9 (.ld 1 8),
zq 10 (.len false 9),
zq 11 (.bin .lss 5 10)]
def c43_4 : C := .reg (some [0, 3, 4, 21]) [zq 14 (.mv 0),
zq 15 (.nilc 14),
zq 16 (.fad 21 1 1 15),
zq 17 (.ld 1 16),
zq 18 (.mv 4),
zq 19 (.sad 10 17 18),
zq 20 (.ld 10 19),
zq 21 (.bin .eql 20 (zi 0))]
def c43_5 : C := .reg (some [0, 3, 4]) [zq 22 (.mv 3),
zq 23 (.bin .add 22 (zi 1)),
zq 3 (.mv 23)]
def c43_6 : C := .reg (some [0, 3, 4]) [zq 12 (.mv 4),
zq 13 (.bin .add 12 (zi 1)),
zq 4 (.mv 13)]
def c43_7 : C := .reg (some [2]) [zq 24 (.mv 3),
zq 2 (.mv 24)]
def b_steadfastref04_Frames_Left_0 : C :=
    .seq (.seq (c43_3) (
    .cond (.t 11) (
      .skip) (
      .exit 0))) (
    .seq (.block 1 (
      .seq (c43_4) (
      .cond (.t 21) (
        c43_5) (
        .skip)))) (
    c43_6))
/-- (*steadfast/steadfastref04.Frames).Left -/
@[go_sem] def fc_steadfastref04_Frames_Left : Fc := ⟨1,
  .seq (c43_0) (
  .seq (c43_1) (
  .seq (.seq (c43_2) (
  .block 0 (
    .loop [0, 3, 4] b_steadfastref04_Frames_Left_0))) (
  .seq (c43_7) (
  .ret)))),
  [.t 2]⟩
def c44_0 : C := .reg (some [0]) [zq 2 (.mv (zi 0))]
def c44_1 : C := .reg (some [0, 3]) [zq 3 (.mv (zi 0))]
def c44_2 : C := .reg (some [3, 9, 10]) [zq 6 (.mv 0),
zq 7 (.nilc 6),
zq 8 (.fad 80 2 78 7),
zq 9 (.ld 78 8),
zq 10 (.mv (zi 0))]
def c44_3 : C := .reg (some [3, 9, 10, 11]) [zq 11 (.bin .lss 10 (zi 16))]
def c44_4 : C := .reg (some [3, 5, 9, 10]) [zq 12 (.idx 78 16 9 10),
zq 5 (.mv 12)]
def c44_5 : C := .reg (some [3, 9, 10]) [zq 13 (.mv 3),
zq 14 (.mv 5),
zq 15 (.call (zf f_math_bits_OnesCount64) [14]),
zq 16 (.bin .add 13 15),
zq 3 (.mv 16)]
def c44_6 : C := .reg (some [3, 9, 10]) [zq 17 (.bin .add 10 (zi 1)),
zq 10 (.mv 17)]
def c44_7 : C := .reg (some [2]) [zq 18 (.mv 3),
zq 2 (.mv 18)]
def b_frames_Frames_Left_0 : C :=
    .seq (c44_3) (
    .seq (.cond (.t 11) (
      .skip) (
      .exit 0)) (
    .seq (.block 1 (
      .seq (c44_4) (
      c44_5))) (
    c44_6)))
/-- (*steadfast/frames.Frames).Left -/
@[go_sem] def fc_frames_Frames_Left : Fc := ⟨1,
  .seq (c44_0) (
  .seq (c44_1) (
  .seq (.seq (c44_2) (
  .block 0 (
    .loop [3, 9, 10] b_frames_Frames_Left_0))) (
  .seq (c44_7) (
  .ret)))),
  [.t 2]⟩
def c45_0 : C := .reg (some [0, 1]) [zq 4 (.mv (zi 0))]
def c45_1 : C := .reg (some [0, 1, 5]) [zq 6 (.mv 1),
zq 7 (.bin .lss 6 (zi 0)),
zq 5 (.mv 7)]
def c45_2 : C := .reg (some [0, 1, 5]) [zq 8 (.mv 1),
zq 9 (.bin .geq 8 (zi 49)),
zq 5 (.mv 9)]
def c45_3 : C := .reg (some [4]) [zq 4 (.mv (zi 1))]
def c45_4 : C := .reg (some [10]) [zq 11 (.mv 0),
zq 12 (.mv 1),
zq 13 (.nilc 11),
zq 14 (.fad 43 2 48 13),
zq 15 (.iad 48 49 42 14 12),
zq 16 (.fad 42 0 10 15),
zq 17 (.ld 10 16),
zq 18 (.bin .eql 17 (zi 0)),
zq 10 (.mv 18)]
def c45_5 : C := .reg (some [4]) [zq 4 (.mv (zi 30))]
def c45_6 : C := .reg (some [4]) [zq 4 (.mv (zi 0))]
/-- (*steadfast/objects.Store).is -/
@[go_sem] def fc_objects_Store_is : Fc := ⟨2,
  .seq (c45_0) (
  .seq (.block 0 (
    .seq (.seq (c45_1) (
    .cond (.t 5) (
      .skip) (
      c45_2))) (
    .cond (.t 5) (
      .seq (c45_3) (
      .ret)) (
      .seq (c45_4) (
      .cond (.t 10) (
        .seq (c45_5) (
        .ret)) (
        .skip)))))) (
  .seq (c45_6) (
  .ret))),
  [.t 4]⟩
def c46_0 : C := .reg (some [0, 1]) [zq 4 (.mv (.k (.bool false)))]
def c46_1 : C := .regd (some [4]) [zq 5 (.mv 0),
zq 6 (.mv 0),
zq 7 (.mv 1),
zq 8 (.nilc 6),
zq 9 (.fad 43 2 48 8),
zq 10 (.iad 48 49 42 9 7),
zq 11 (.fad 42 2 10 10),
zq 12 (.ld 10 11),
zq 13 (.nilc 5),
zq 14 (.fad 43 7 82 13),
zq 15 (.iad 82 1024 0 14 12),
zq 16 (.ld 0 15),
zq 17 (.un .not 16),
zq 4 (.mv 17)]
/-- (*steadfast/objects.Store).own -/
@[go_sem] def fc_objects_Store_own : Fc := ⟨2,
  .seq (c46_0) (
  .seq (c46_1) (
  .ret)),
  [.t 4]⟩
def c47_0 : C := .reg (some [0, 1, 2, 3]) [zq 8 (.mv (zi 0))]
def c47_1 : C := .reg (some [0, 2, 3, 9]) [zq 11 (.mv 0),
zq 12 (.mv 1),
zq 13 (.call (zf f_nvm_Memory_at) [11, 12]),
zq 9 (.mv 13)]
def c47_2 : C := .reg (some [0, 2, 3, 9, 23]) [zq 14 (.mv 9),
zq 15 (.eq false 1 14 (.k .nilp)),
zq 16 (.mv 15),
zg 17 16 false (.mv 2),
zg 18 16 false (.bin .lss 17 (zi 0)),
zq 19 (.pick 16 (.k (.bool true)) 18),
zq 20 (.mv 19),
zg 21 20 false (.mv 2),
zg 22 20 false (.bin .geq 21 (zi 8)),
zq 23 (.pick 20 (.k (.bool true)) 22)]
def c47_3 : C := .reg (some [8]) [zq 8 (.mv (zi 1))]
def c47_4 : C := .reg (some [2, 3, 9, 10]) [zq 24 (.mv 0),
zq 25 (.call (zf f_nvm_Memory_step) [24]),
zq 10 (.mv 25)]
def c47_5 : C := .reg (some [2, 3, 9, 10, 27]) [zq 26 (.mv 10),
zq 27 (.bin .neq 26 (zi 0))]
def c47_6 : C := .reg (some [8]) [zq 28 (.mv 10),
zq 8 (.mv 28)]
def c47_7 : C := .reg (some [2, 3, 9]) [zq 29 (.mv 9),
zq 30 (.mv 2),
zq 31 (.mv 3),
zq 32 (.nilc 29),
zq 33 (.fad 55 0 24 32),
zq 34 (.iad 24 8 18 33 30),
zw (.st 18 34 31)]
def c47_8 : C := .reg (some []) [zq 35 (.mv 9),
zq 36 (.mv 9),
zq 37 (.nilc 36),
zq 38 (.fad 55 2 1 37),
zq 39 (.ld 1 38),
zq 40 (.mv 2),
zq 41 (.mv 3),
zq 42 (.bld (.agg 84 [(.int .i64 0), (.int .u64 0)]) [(0, 40), (1, 41)]),
zq 43 (.bsl false 86 84 (.agg 84 [(.int .i64 0), (.int .u64 0)]) 1 [(0, 42)]),
zq 44 (.app true 86 84 39 43),
zq 45 (.nilc 35),
zq 46 (.fad 55 2 1 45),
zw (.st 1 46 44)]
def c47_9 : C := .reg (some [8]) [zq 8 (.mv (zi 0))]
/-- (*steadfast/nvm.Memory).Store -/
@[go_sem] def fc_nvm_Memory_Store : Fc := ⟨4,
  .seq (c47_0) (
  .seq (c47_1) (
  .seq (.seq (c47_2) (
  .cond (.t 23) (
    .seq (c47_3) (
    .ret)) (
    .skip))) (
  .seq (.seq (c47_4) (
  .seq (c47_5) (
  .cond (.t 27) (
    .seq (c47_6) (
    .ret)) (
    .skip)))) (
  .seq (c47_7) (
  .seq (c47_8) (
  .seq (c47_9) (
  .ret))))))),
  [.t 8]⟩
def c48_0 : C := .reg (some [0, 3]) [zq 3 (.box false 1),
zq 4 (.mv (zi 0)),
zq 5 (.mv (zi 0))]
def c48_1 : C := .reg (some [0, 3, 6, 7]) [zq 12 (.mv 0),
zq 13 (.nilc 12),
zq 14 (.fad 43 1 1 13),
zq 15 (.ld 1 14),
zq 16 (.call (zf f_frames_Frames_Alloc) [15]),
zq 11 (.mv 16),
zq 17 (.ext 11 0),
zq 18 (.ext 11 1),
zq 6 (.mv 17),
zq 7 (.mv 18)]
def c48_2 : C := .reg (some [0, 3, 6, 7, 20]) [zq 19 (.mv 7),
zq 20 (.bin .neq 19 (zi 0))]
def c48_3 : C := .reg (some [4, 5]) [zq 21 (.mv 7),
zq 4 (.mv (zi 0)),
zq 5 (.mv 21)]
def c48_4 : C := .reg (some [0, 6, 22, 23]) [zq 22 (.ld 24 3),
zq 23 (.mv (zi 0))]
def c48_5 : C := .reg (some [0, 6, 22, 23, 24]) [zq 24 (.bin .lss 23 (zi 8))]
def c48_6 : C := .reg (some [0, 6, 8, 9, 22, 23]) [zq 25 (.mv 23),
zq 26 (.idx 24 8 22 23),
zq 8 (.mv 25),
zq 9 (.mv 26)]
def c48_7 : C := .reg (some [0, 6, 10, 22, 23]) [zq 27 (.mv 0),
zq 28 (.nilc 27),
zq 29 (.fad 43 0 1 28),
zq 30 (.ld 1 29),
zq 31 (.mv 6),
zq 32 (.mv 8),
zq 33 (.mv 9),
zq 34 (.call (zf f_nvm_Memory_Store) [30, 31, 32, 33]),
zq 10 (.mv 34)]
def c48_8 : C := .reg (some [0, 6, 10, 22, 23, 36]) [zq 35 (.mv 10),
zq 36 (.bin .neq 35 (zi 0))]
def c48_9 : C := .reg (some [4, 5]) [zq 37 (.mv 10),
zq 4 (.mv (zi 0)),
zq 5 (.mv 37)]
def c48_10 : C := .reg (some [0, 6, 22, 23]) [zq 38 (.bin .add 23 (zi 1)),
zq 23 (.mv 38)]
def c48_11 : C := .reg (some [4, 5]) [zq 39 (.mv 6),
zq 4 (.mv 39),
zq 5 (.mv (zi 0))]
def b_objects_Store_lay_0 : C :=
    .seq (c48_5) (
    .seq (.cond (.t 24) (
      .skip) (
      .exit 0)) (
    .seq (.block 1 (
      .seq (c48_6) (
      .seq (c48_7) (
      .seq (c48_8) (
      .cond (.t 36) (
        .seq (c48_9) (
        .ret)) (
        .skip)))))) (
    c48_10)))
/-- (*steadfast/objects.Store).lay -/
@[go_sem] def fc_objects_Store_lay : Fc := ⟨2,
  .seq (c48_0) (
  .seq (c48_1) (
  .seq (.seq (c48_2) (
  .cond (.t 20) (
    .seq (c48_3) (
    .ret)) (
    .skip))) (
  .seq (.seq (c48_4) (
  .block 0 (
    .loop [0, 6, 22, 23] b_objects_Store_lay_0))) (
  .seq (c48_11) (
  .ret))))),
  [.t 4, .t 5]⟩
def c49_0 : C := .reg (some [0]) [zq 2 (.mv (zi 0)),
zq 3 (.mv (zi 0))]
def c49_1 : C := .reg (some [0, 10, 11]) [zq 7 (.mv 0),
zq 8 (.nilc 7),
zq 9 (.fad 80 2 78 8),
zq 10 (.ld 78 9),
zq 11 (.mv (zi 0))]
def c49_2 : C := .reg (some [0, 10, 11, 12]) [zq 12 (.bin .lss 11 (zi 16))]
def c49_3 : C := .reg (some [0, 4, 5, 10, 11]) [zq 13 (.mv 11),
zq 14 (.idx 78 16 10 11),
zq 4 (.mv 13),
zq 5 (.mv 14)]
def c49_4 : C := .reg (some [0, 4, 5, 10, 11, 16]) [zq 15 (.mv 5),
zq 16 (.bin .neq 15 (.k (.int .u64 0)))]
def c49_5 : C := .reg (some [0, 6]) [zq 17 (.mv 4),
zq 18 (.bin .mul (zi 64) 17),
zq 19 (.mv 5),
zq 20 (.call (zf f_math_bits_TrailingZeros64) [19]),
zq 21 (.bin .add 18 20),
zq 6 (.mv 21)]
def c49_6 : C := .reg (some [6]) [zq 22 (.mv 0),
zq 23 (.nilc 22),
zq 24 (.fad 80 2 78 23),
zq 25 (.mv 6),
zq 26 (.call (zf f_frames_set_turn) [24, 25])]
def c49_7 : C := .reg (some [2, 3]) [zq 27 (.mv 6),
zq 2 (.mv 27),
zq 3 (.mv (zi 0))]
def c49_8 : C := .reg (some [0, 10, 11]) [zq 28 (.bin .add 11 (zi 1)),
zq 11 (.mv 28)]
def c49_9 : C := .reg (some [2, 3]) [zq 2 (.mv (zi 0)),
zq 3 (.mv (zi 10))]
def b_frames_Frames_Alloc_0 : C :=
    .seq (c49_2) (
    .seq (.cond (.t 12) (
      .skip) (
      .exit 0)) (
    .seq (.block 1 (
      .seq (c49_3) (
      .seq (c49_4) (
      .cond (.t 16) (
        .seq (c49_5) (
        .seq (c49_6) (
        .seq (c49_7) (
        .ret)))) (
        .skip))))) (
    c49_8)))
/-- (*steadfast/frames.Frames).Alloc -/
@[go_sem] def fc_frames_Frames_Alloc : Fc := ⟨1,
  .seq (c49_0) (
  .seq (.seq (c49_1) (
  .block 0 (
    .loop [0, 10, 11] b_frames_Frames_Alloc_0))) (
  .seq (c49_9) (
  .ret))),
  [.t 2, .t 3]⟩
def c50_0 : C := .reg (some [0, 1]) [zq 4 (.mv (zi 0))]
def c50_1 : C := .reg (some [0, 1, 5]) [zq 6 (.mv 0),
zq 7 (.mv 1),
zq 8 (.call (zf f_frames_Frames_in) [6, 7, (zi 1)]),
zq 5 (.mv 8)]
def c50_2 : C := .reg (some [0, 1, 5, 10]) [zq 9 (.mv 5),
zq 10 (.bin .eql 9 (zi 0))]
def c50_3 : C := .reg (some [5]) [zq 11 (.mv 0),
zq 12 (.nilc 11),
zq 13 (.fad 80 2 78 12),
zq 14 (.mv 1),
zq 15 (.call (zf f_frames_set_turn) [13, 14])]
def c50_4 : C := .reg (some [4]) [zq 16 (.mv 5),
zq 4 (.mv 16)]
/-- (*steadfast/frames.Frames).Free -/
@[go_sem] def fc_frames_Frames_Free : Fc := ⟨2,
  .seq (c50_0) (
  .seq (c50_1) (
  .seq (.seq (c50_2) (
  .cond (.t 10) (
    c50_3) (
    .skip))) (
  .seq (c50_4) (
  .ret)))),
  [.t 4]⟩
def c51_0 : C := .reg (some [1, 2]) [zq 1 (.box false 0),
zq 2 (.alloc false (.agg 42 [(.int .i64 0), (.int .i64 0), (.int .i64 0)])),
zq 3 (.mv (zi 0))]
def c51_1 : C := .reg (some [1, 2, 6]) [zq 4 (.fad 42 0 10 1),
zq 5 (.ld 10 4),
zq 6 (.bin .eql 5 (zi 0))]
def c51_2 : C := .reg (some [2, 3]) [zq 7 (.bld (.agg 42 [(.int .i64 0), (.int .i64 0), (.int .i64 0)]) []),
zw (.st 42 2 7),
zq 3 (.mv (zi 30))]
def c51_3 : C := .reg (some [2, 3]) [zq 8 (.fad 42 1 10 1),
zq 9 (.ld 10 8),
zq 10 (.fad 42 1 10 1),
zq 11 (.ld 10 10),
zq 12 (.bin .sub (zi 16777215) 11),
zq 13 (.mnx false (zi 1) 12),
zq 14 (.bin .add 9 13),
zq 15 (.bld (.agg 42 [(.int .i64 0), (.int .i64 0), (.int .i64 0)]) [(1, 14)]),
zw (.st 42 2 15),
zq 3 (.mv (zi 0))]
/-- steadfast/entry.End -/
@[go_sem] def fc_entry_End : Fc := ⟨1,
  .seq (c51_0) (
  .seq (.seq (c51_1) (
  .cond (.t 6) (
    .seq (c51_2) (
    .ret)) (
    .skip))) (
  .seq (c51_3) (
  .ret))),
  [.cell 2 42, .t 3]⟩
def c52_0 : C := .reg (some [0, 1]) [zq 4 (.mv (.k .nilp))]
def c52_1 : C := .reg (some [0, 1, 15]) [zq 5 (.mv 1),
zq 6 (.bin .lss 5 (zi 0)),
zq 7 (.mv 6),
zg 8 7 false (.mv 1),
zg 9 7 false (.mv 0),
zg 10 7 false (.nilc 9),
zg 11 7 false (.fad 59 0 1 10),
zg 12 7 false (.ld 1 11),
zg 13 7 false (.len false 12),
zg 14 7 false (.bin .geq 8 13),
zq 15 (.pick 7 (.k (.bool true)) 14)]
def c52_2 : C := .reg (some [4]) [zq 4 (.mv (.k .nilp))]
def c52_3 : C := .reg (some [4]) [zq 16 (.mv 0),
zq 17 (.nilc 16),
zq 18 (.fad 59 0 1 17),
zq 19 (.ld 1 18),
zq 20 (.mv 1),
zq 21 (.sad 55 19 20),
zq 4 (.mv 21)]
/-- (*steadfast/nvm.Memory).at -/
@[go_sem] def fc_nvm_Memory_at : Fc := ⟨2,
  .seq (c52_0) (
  .seq (.seq (c52_1) (
  .cond (.t 15) (
    .seq (c52_2) (
    .ret)) (
    .skip))) (
  .seq (c52_3) (
  .ret))),
  [.t 4]⟩
def c53_0 : C := .reg (some [0, 2]) [zq 2 (.alloc false (.agg 40 [(.int .i64 0), (.int .i64 0), (.int .i64 0), (.int .i64 0), (.int .i64 0)])),
zq 3 (.mv (.k (.bool false)))]
def c53_1 : C := .reg (some [2, 4]) [zq 5 (.mv 0),
zq 6 (.bin .and 5 (.k (.int .u64 15))),
zq 7 (.conv .i64 6),
zq 8 (.mv 0),
zq 9 (.bin .shr 8 (.k (.int .u64 4))),
zq 10 (.bin .and 9 (.k (.int .u64 15))),
zq 11 (.conv .i64 10),
zq 12 (.mv 0),
zq 13 (.bin .shr 12 (.k (.int .u64 8))),
zq 14 (.bin .and 13 (.k (.int .u64 65535))),
zq 15 (.conv .i64 14),
zq 16 (.mv 0),
zq 17 (.bin .shr 16 (.k (.int .u64 24))),
zq 18 (.bin .and 17 (.k (.int .u64 16777215))),
zq 19 (.conv .i64 18),
zq 20 (.mv 0),
zq 21 (.bin .shr 20 (.k (.int .u64 48))),
zq 22 (.conv .i64 21),
zq 23 (.bld (.agg 40 [(.int .i64 0), (.int .i64 0), (.int .i64 0), (.int .i64 0), (.int .i64 0)]) [(0, 7), (1, 11), (2, 15), (3, 19), (4, 22)]),
zq 4 (.alloc false (.agg 40 [(.int .i64 0), (.int .i64 0), (.int .i64 0), (.int .i64 0), (.int .i64 0)])),
zw (.st 40 4 23)]
def c53_2 : C := .reg (some [2, 4, 26]) [zq 24 (.ld 40 4),
zq 25 (.call (zf f_caps_may) [24]),
zq 26 (.un .not 25)]
def c53_3 : C := .reg (some [2, 3]) [zq 27 (.bld (.agg 40 [(.int .i64 0), (.int .i64 0), (.int .i64 0), (.int .i64 0), (.int .i64 0)]) []),
zw (.st 40 2 27),
zq 3 (.mv (.k (.bool false)))]
def c53_4 : C := .reg (some [2, 3]) [zq 28 (.ld 40 4),
zw (.st 40 2 28),
zq 3 (.mv (.k (.bool true)))]
/-- steadfast/caps.Of -/
@[go_sem] def fc_caps_Of : Fc := ⟨1,
  .seq (c53_0) (
  .seq (c53_1) (
  .seq (.seq (c53_2) (
  .cond (.t 26) (
    .seq (c53_3) (
    .ret)) (
    .skip))) (
  .seq (c53_4) (
  .ret)))),
  [.cell 2 40, .t 3]⟩
def c54_0 : C := .reg (some [1, 2, 3]) [zq 3 (.box false 0),
zq 6 (.mv (zi 0))]
def c54_1 : C := .reg (some [1, 3, 7, 8]) [zq 10 (.mv 2),
zq 11 (.call (zf f_caps_Of) [10]),
zq 9 (.mv 11),
zq 12 (.ext 9 0),
zq 13 (.ext 9 1),
zq 7 (.alloc false (.agg 40 [(.int .i64 0), (.int .i64 0), (.int .i64 0), (.int .i64 0), (.int .i64 0)])),
zw (.st 40 7 12),
zq 8 (.mv 13)]
def c54_2 : C := .reg (some [1, 3, 7, 14]) [zq 15 (.mv 8),
zq 16 (.un .not 15),
zq 14 (.mv 16)]
def c54_3 : C := .reg (some [1, 3, 7, 14]) [zq 17 (.fad 40 0 10 7),
zq 18 (.ld 10 17),
zq 19 (.bin .gtr 18 (zi 4)),
zq 14 (.mv 19)]
def c54_4 : C := .reg (some [6]) [zq 6 (.mv (zi 31))]
def c54_5 : C := .reg (some [3, 7, 20]) [zq 21 (.fad 40 2 10 7),
zq 22 (.ld 10 21),
zq 23 (.mv 1),
zq 24 (.bin .neq 22 23),
zq 20 (.mv 24)]
def c54_6 : C := .reg (some [6]) [zq 6 (.mv (zi 30))]
def c54_7 : C := .reg (some [3, 7, 25]) [zq 26 (.fad 40 3 10 7),
zq 27 (.ld 10 26),
zq 28 (.fad 42 1 10 3),
zq 29 (.ld 10 28),
zq 30 (.bin .neq 27 29),
zq 25 (.mv 30)]
def c54_8 : C := .reg (some [6]) [zq 6 (.mv (zi 33))]
def c54_9 : C := .reg (some [3, 7, 31]) [zq 32 (.fad 42 0 10 3),
zq 33 (.ld 10 32),
zq 34 (.bin .eql 33 (zi 0)),
zq 31 (.mv 34)]
def c54_10 : C := .reg (some [6]) [zq 6 (.mv (zi 30))]
def c54_11 : C := .reg (some [35]) [zq 36 (.fad 40 0 10 7),
zq 37 (.ld 10 36),
zq 38 (.fad 42 0 10 3),
zq 39 (.ld 10 38),
zq 40 (.bin .neq 37 39),
zq 35 (.mv 40)]
def c54_12 : C := .reg (some [6]) [zq 6 (.mv (zi 31))]
def c54_13 : C := .reg (some [6]) [zq 6 (.mv (zi 0))]
/-- steadfast/entry.Names -/
@[go_sem] def fc_entry_Names : Fc := ⟨3,
  .seq (c54_0) (
  .seq (c54_1) (
  .seq (.block 0 (
    .seq (.seq (c54_2) (
    .cond (.t 14) (
      .skip) (
      c54_3))) (
    .cond (.t 14) (
      .seq (c54_4) (
      .ret)) (
      .seq (c54_5) (
      .cond (.t 20) (
        .seq (c54_6) (
        .ret)) (
        .seq (c54_7) (
        .cond (.t 25) (
          .seq (c54_8) (
          .ret)) (
          .seq (c54_9) (
          .cond (.t 31) (
            .seq (c54_10) (
            .ret)) (
            .seq (c54_11) (
            .cond (.t 35) (
              .seq (c54_12) (
              .ret)) (
              .skip)))))))))))) (
  .seq (c54_13) (
  .ret)))),
  [.t 6]⟩
def c55_0 : C := .reg (some [1]) [zq 1 (.box false 0),
zq 2 (.mv (.k (.bool false)))]
def c55_1 : C := .reg (some [1, 3]) [zq 4 (.fad 40 0 10 1),
zq 5 (.ld 10 4),
zq 6 (.bin .eql 5 (zi 5)),
zq 7 (.mv 6),
zg 8 7 false (.fad 40 0 10 1),
zg 9 7 false (.ld 10 8),
zg 10 7 false (.bin .eql 9 (zi 6)),
zq 11 (.pick 7 (.k (.bool true)) 10),
zq 3 (.mv 11)]
def c55_2 : C := .reg (some [2]) [zq 12 (.fad 40 0 10 1),
zq 13 (.ld 10 12),
zq 14 (.call (zf f_caps_within) [13, (zi 1), (zi 6)]),
zq 15 (.mv 14),
zg 16 15 true (.fad 40 1 10 1),
zg 17 15 true (.ld 10 16),
zg 18 15 true (.call (zf f_caps_within) [17, (zi 0), (zi 15)]),
zq 19 (.pick 15 18 (.k (.bool false))),
zq 20 (.mv 19),
zg 21 20 true (.fad 40 2 10 1),
zg 22 20 true (.ld 10 21),
zg 23 20 true (.call (zf f_caps_within) [22, (zi 0), (zi 48)]),
zq 24 (.pick 20 23 (.k (.bool false))),
zq 25 (.mv 24),
zg 26 25 true (.fad 40 3 10 1),
zg 27 25 true (.ld 10 26),
zg 28 25 true (.call (zf f_caps_within) [27, (zi 0), (zi 16777215)]),
zq 29 (.pick 25 28 (.k (.bool false))),
zq 30 (.mv 29),
zg 31 30 true (.fad 40 4 10 1),
zg 32 30 true (.ld 10 31),
zg 33 30 true (.call (zf f_caps_within) [32, (zi 0), (zi 65535)]),
zq 34 (.pick 30 33 (.k (.bool false))),
zq 35 (.mv 34),
zg 36 35 true (.mv 3),
zg 37 35 true (.un .not 36),
zg 38 35 true (.mv 37),
zg 39 38 false (.fad 40 2 10 1),
zg 40 38 false (.ld 10 39),
zg 41 38 false (.bin .eql 40 (zi 0)),
zg 42 38 false (.mv 41),
zg 43 42 true (.fad 40 3 10 1),
zg 44 42 true (.ld 10 43),
zg 45 42 true (.bin .eql 44 (zi 0)),
zg 46 38 false (.pick 42 45 (.k (.bool false))),
zg 47 35 true (.pick 38 (.k (.bool true)) 46),
zq 48 (.pick 35 47 (.k (.bool false))),
zq 2 (.mv 48)]
/-- steadfast/caps.may -/
@[go_sem] def fc_caps_may : Fc := ⟨1,
  .seq (c55_0) (
  .seq (c55_1) (
  .seq (c55_2) (
  .ret))),
  [.t 2]⟩
def c56_0 : C := .reg (some [0]) [zq 6 (.mv 0),
zq 7 (.nilc 6),
zq 8 (.fad 43 6 0 7),
zw (.st 0 8 (.k (.bool false)))]
def c56_1 : C := .reg (some [0]) [zq 9 (.mv 0),
zq 10 (.call (zf f_objects_Store_share) [9])]
def c56_2 : C := .reg (some [0, 2]) [zq 11 (.mv 0),
zq 12 (.nilc 11),
zq 13 (.fad 43 7 82 12),
zq 14 (.ld 82 13),
zq 2 (.alloc false (.agg 82 (List.replicate 1024 (.bool false)))),
zw (.st 82 2 14)]
def c56_3 : C := .reg (some [0, 2]) [zq 15 (.mv 0),
zq 16 (.nilc 15),
zq 17 (.fad 43 2 48 16),
zq 18 (.ld 48 17),
zq 19 (.call (zf f_objects_lines_add) [2, 18])]
def c56_4 : C := .reg (some [0, 2, 23, 24]) [zq 20 (.mv 0),
zq 21 (.nilc 20),
zq 22 (.fad 43 4 50 21),
zq 23 (.ld 50 22),
zq 24 (.mv (zi 0))]
def c56_5 : C := .reg (some [0, 2, 23, 24, 25]) [zq 25 (.bin .lss 24 (zi 8))]
def c56_6 : C := .reg (some [0, 2, 4, 23, 24]) [zq 26 (.idx 50 8 23 24),
zq 4 (.mv 26)]
def c56_7 : C := .reg (some [0, 2, 4, 23, 24, 32]) [zq 27 (.mv 4),
zq 28 (.bin .geq 27 (zi 0)),
zq 29 (.mv 28),
zg 30 29 true (.mv 4),
zg 31 29 true (.bin .lss 30 (zi 1024)),
zq 32 (.pick 29 31 (.k (.bool false)))]
def c56_8 : C := .reg (some [0, 2, 23, 24]) [zq 33 (.mv 4),
zq 34 (.iad 82 1024 0 2 33),
zw (.st 0 34 (.k (.bool true)))]
def c56_9 : C := .reg (some [0, 2, 23, 24]) [zq 35 (.bin .add 24 (zi 1)),
zq 24 (.mv 35)]
def c56_10 : C := .reg (some [0, 2, 40, 41]) [zq 36 (.mv 0),
zq 37 (.nilc 36),
zq 38 (.fad 43 0 1 37),
zq 39 (.ld 1 38),
zq 40 (.call (zf f_nvm_Memory_Lines) [39]),
zq 41 (.mv (zi 0))]
def c56_11 : C := .reg (some [0, 2, 40, 41, 42]) [zq 42 (.bin .lss 41 40)]
def c56_12 : C := .reg (some [0, 2, 5, 40, 41]) [zq 43 (.mv 41),
zq 5 (.mv 43)]
def c56_13 : C := .reg (some [0, 2, 5, 40, 41, 56]) [zq 44 (.mv 5),
zq 45 (.iad 82 1024 0 2 44),
zq 46 (.ld 0 45),
zq 47 (.un .not 46),
zq 48 (.mv 47),
zg 49 48 true (.mv 0),
zg 50 48 true (.nilc 49),
zg 51 48 true (.fad 43 1 1 50),
zg 52 48 true (.ld 1 51),
zg 53 48 true (.mv 5),
zg 54 48 true (.call (zf f_frames_Frames_State) [52, 53]),
zg 55 48 true (.bin .eql 54 (zi 1)),
zq 56 (.pick 48 55 (.k (.bool false)))]
def c56_14 : C := .reg (some [0, 2, 40, 41]) [zq 57 (.mv 0),
zq 58 (.nilc 57),
zq 59 (.fad 43 1 1 58),
zq 60 (.ld 1 59),
zq 61 (.mv 5),
zq 62 (.call (zf f_frames_Frames_Later) [60, 61])]
def c56_15 : C := .reg (some [0, 2, 40, 41]) [zq 63 (.bin .add 41 (zi 1)),
zq 41 (.mv 63)]
def c56_16 : C := .reg (some []) [zq 64 (.mv 0),
zq 65 (.nilc 64),
zq 66 (.fad 43 1 1 65),
zq 67 (.ld 1 66),
zq 68 (.call (zf f_frames_Frames_Settle) [67])]
def b_objects_Store_unmark_0 : C :=
    .seq (c56_5) (
    .seq (.cond (.t 25) (
      .skip) (
      .exit 0)) (
    .seq (.block 1 (
      .seq (c56_6) (
      .seq (c56_7) (
      .cond (.t 32) (
        c56_8) (
        .skip))))) (
    c56_9)))
def b_objects_Store_unmark_1 : C :=
    .seq (c56_11) (
    .seq (.cond (.t 42) (
      .skip) (
      .exit 2)) (
    .seq (.block 3 (
      .seq (c56_12) (
      .seq (c56_13) (
      .cond (.t 56) (
        c56_14) (
        .skip))))) (
    c56_15)))
/-- (*steadfast/objects.Store).unmark -/
@[go_sem] def fc_objects_Store_unmark : Fc := ⟨1,
  .seq (c56_0) (
  .seq (c56_1) (
  .seq (c56_2) (
  .seq (c56_3) (
  .seq (.seq (c56_4) (
  .block 0 (
    .loop [0, 2, 23, 24] b_objects_Store_unmark_0))) (
  .seq (.seq (c56_10) (
  .block 2 (
    .loop [0, 2, 40, 41] b_objects_Store_unmark_1))) (
  c56_16)))))),
  []⟩
def c57_0 : C := .reg (some [1]) [zq 1 (.box false 0),
zq 2 (.mv (.k (.bool false)))]
def c57_1 : C := .reg (some [2]) [zq 3 (.fad 42 0 10 1),
zq 4 (.ld 10 3),
zq 5 (.bin .eql 4 (zi 0)),
zq 6 (.mv 5),
zg 7 6 true (.fad 42 1 10 1),
zg 8 6 true (.ld 10 7),
zg 9 6 true (.bin .lss 8 (zi 16777215)),
zq 10 (.pick 6 9 (.k (.bool false))),
zq 2 (.mv 10)]
/-- steadfast/entry.Open -/
@[go_sem] def fc_entry_Open : Fc := ⟨1,
  .seq (c57_0) (
  .seq (c57_1) (
  .ret)),
  [.t 2]⟩
def c58_0 : C := .regd (some []) [zq 4 (.mv 0),
zq 5 (.mv 1),
zq 6 (.bin .quo 5 (zi 64)),
zq 7 (.nilc 4),
zq 8 (.iad 78 16 18 7 6),
zq 9 (.ld 18 8),
zq 10 (.mv 1),
zq 11 (.bin .rem 10 (zi 64)),
zq 12 (.bin .shl (.k (.int .u64 1)) 11),
zq 13 (.bin .xor 9 12),
zq 14 (.nilc 4),
zq 15 (.iad 78 16 18 14 6),
zw (.st 18 15 13)]
/-- (*steadfast/frames.set).turn -/
@[go_sem] def fc_frames_set_turn : Fc := ⟨2,
  c58_0,
  []⟩
def c59_0 : C := .reg (some [0, 1, 2]) [zq 6 (.mv (zi 0))]
def c59_1 : C := .reg (some [2, 9]) [zq 7 (.mv 0),
zq 8 (.mv 1),
zq 9 (.call (zf f_frames_Frames_State) [7, 8])]
def c59_2 : C := .reg (some [2, 9, 10]) [zq 11 (.bin .eql 9 (zi (-1))),
zq 10 (.mv 11)]
def c59_3 : C := .reg (some [6]) [zq 6 (.mv (zi 1))]
def c59_4 : C := .reg (some [12]) [zq 13 (.mv 2),
zq 14 (.bin .eql 9 13),
zq 12 (.mv 14)]
def c59_5 : C := .reg (some [6]) [zq 6 (.mv (zi 0))]
def c59_6 : C := .reg (some [6]) [zq 6 (.mv (zi 3))]
/-- (*steadfast/frames.Frames).in -/
@[go_sem] def fc_frames_Frames_in : Fc := ⟨3,
  .seq (c59_0) (
  .seq (.seq (c59_1) (
  .block 0 (
    .seq (c59_2) (
    .cond (.t 10) (
      .seq (c59_3) (
      .ret)) (
      .seq (c59_4) (
      .cond (.t 12) (
        .seq (c59_5) (
        .ret)) (
        .skip))))))) (
  .seq (c59_6) (
  .ret))),
  [.t 6]⟩
def c60_0 : C := .reg (some [0, 3]) [zq 3 (.box false 1)]
def c60_1 : C := .reg (some [0, 6, 7]) [zq 6 (.ld 48 3),
zq 7 (.mv (zi 0))]
def c60_2 : C := .reg (some [0, 6, 7, 8]) [zq 8 (.bin .lss 7 (zi 49))]
def c60_3 : C := .reg (some [0, 5, 6, 7]) [zq 9 (.idx 48 49 6 7),
zq 5 (.alloc false (.agg 42 [(.int .i64 0), (.int .i64 0), (.int .i64 0)])),
zw (.st 42 5 9)]
def c60_4 : C := .reg (some [0, 5, 6, 7, 12]) [zq 10 (.fad 42 0 10 5),
zq 11 (.ld 10 10),
zq 12 (.bin .neq 11 (zi 0))]
def c60_5 : C := .regd (some [0, 6, 7]) [zq 13 (.mv 0),
zq 14 (.fad 42 2 10 5),
zq 15 (.ld 10 14),
zq 16 (.nilc 13),
zq 17 (.iad 82 1024 0 16 15),
zw (.st 0 17 (.k (.bool true)))]
def c60_6 : C := .reg (some [0, 6, 7]) [zq 18 (.bin .add 7 (zi 1)),
zq 7 (.mv 18)]
def b_objects_lines_add_0 : C :=
    .seq (c60_2) (
    .seq (.cond (.t 8) (
      .skip) (
      .exit 0)) (
    .seq (.block 1 (
      .seq (c60_3) (
      .seq (c60_4) (
      .cond (.t 12) (
        c60_5) (
        .skip))))) (
    c60_6)))
/-- (*steadfast/objects.lines).add -/
@[go_sem] def fc_objects_lines_add : Fc := ⟨2,
  .seq (c60_0) (
  .seq (c60_1) (
  .block 0 (
    .loop [0, 6, 7] b_objects_lines_add_0))),
  []⟩
def c61_0 : C := .reg (some [0, 1, 2, 3]) [zq 8 (.mv (zi 0))]
def c61_1 : C := .reg (some [0, 1, 2, 3, 9]) [zq 10 (.mv 0),
zq 11 (.mv 1),
zq 12 (.call (zf f_steadfastref04_Frames_State) [10, 11]),
zq 9 (.mv 12)]
def c61_2 : C := .reg (some [0, 1, 2, 3, 9, 14]) [zq 13 (.mv 9),
zq 14 (.bin .lss 13 (zi 0))]
def c61_3 : C := .reg (some [8]) [zq 8 (.mv (zi 1))]
def c61_4 : C := .reg (some [0, 1, 3, 17]) [zq 15 (.mv 9),
zq 16 (.mv 2),
zq 17 (.bin .neq 15 16)]
def c61_5 : C := .reg (some [8]) [zq 8 (.mv (zi 3))]
def c61_6 : C := .regd (some []) [zq 18 (.mv 0),
zq 19 (.nilc 18),
zq 20 (.fad 21 1 1 19),
zq 21 (.ld 1 20),
zq 22 (.mv 1),
zq 23 (.mv 0),
zq 24 (.nilc 23),
zq 25 (.fad 21 0 10 24),
zq 26 (.ld 10 25),
zq 27 (.bin .sub 22 26),
zq 28 (.mv 3),
zq 29 (.sad 10 21 27),
zw (.st 10 29 28)]
def c61_7 : C := .reg (some [8]) [zq 8 (.mv (zi 0))]
/-- (*steadfast/steadfastref04.Frames).turn -/
@[go_sem] def fc_steadfastref04_Frames_turn : Fc := ⟨4,
  .seq (c61_0) (
  .seq (c61_1) (
  .seq (.seq (c61_2) (
  .cond (.t 14) (
    .seq (c61_3) (
    .ret)) (
    .skip))) (
  .seq (.seq (c61_4) (
  .cond (.t 17) (
    .seq (c61_5) (
    .ret)) (
    .skip))) (
  .seq (c61_6) (
  .seq (c61_7) (
  .ret)))))),
  [.t 8]⟩
def c62_0 : C := .reg (some [0]) [zq 2 (.mv (zi 0))]
def c62_1 : C := .reg (some [0]) [zq 3 (.mv 0),
zq 4 (.bin .shr 3 (.k (.int .u64 1))),
zq 5 (.bin .and 4 (.k (.int .u64 6148914691236517205))),
zq 6 (.mv 0),
zq 7 (.bin .and 6 (.k (.int .u64 6148914691236517205))),
zq 8 (.bin .add 5 7),
zq 0 (.mv 8)]
def c62_2 : C := .reg (some [0]) [zq 9 (.mv 0),
zq 10 (.bin .shr 9 (.k (.int .u64 2))),
zq 11 (.bin .and 10 (.k (.int .u64 3689348814741910323))),
zq 12 (.mv 0),
zq 13 (.bin .and 12 (.k (.int .u64 3689348814741910323))),
zq 14 (.bin .add 11 13),
zq 0 (.mv 14)]
def c62_3 : C := .reg (some [0]) [zq 15 (.mv 0),
zq 16 (.bin .shr 15 (.k (.int .u64 4))),
zq 17 (.mv 0),
zq 18 (.bin .add 16 17),
zq 19 (.bin .and 18 (.k (.int .u64 1085102592571150095))),
zq 0 (.mv 19)]
def c62_4 : C := .reg (some [0]) [zq 20 (.mv 0),
zq 21 (.mv 0),
zq 22 (.bin .shr 21 (.k (.int .u64 8))),
zq 23 (.bin .add 20 22),
zq 0 (.mv 23)]
def c62_5 : C := .reg (some [0]) [zq 24 (.mv 0),
zq 25 (.mv 0),
zq 26 (.bin .shr 25 (.k (.int .u64 16))),
zq 27 (.bin .add 24 26),
zq 0 (.mv 27)]
def c62_6 : C := .reg (some [0]) [zq 28 (.mv 0),
zq 29 (.mv 0),
zq 30 (.bin .shr 29 (.k (.int .u64 32))),
zq 31 (.bin .add 28 30),
zq 0 (.mv 31)]
def c62_7 : C := .reg (some [2]) [zq 32 (.mv 0),
zq 33 (.conv .i64 32),
zq 34 (.bin .and 33 (zi 127)),
zq 2 (.mv 34)]
/-- math/bits.OnesCount64 -/
@[go_sem] def fc_math_bits_OnesCount64 : Fc := ⟨1,
  .seq (c62_0) (
  .seq (c62_1) (
  .seq (c62_2) (
  .seq (c62_3) (
  .seq (c62_4) (
  .seq (c62_5) (
  .seq (c62_6) (
  .seq (c62_7) (
  .ret)))))))),
  [.t 2]⟩
def c63_0 : C := .reg (some [0]) [zq 2 (.mv (zi 0))]
def c63_1 : C := .reg (some [0, 13]) [zq 3 (.mv 0),
zq 4 (.nilc 3),
zq 5 (.fad 59 2 0 4),
zq 6 (.ld 0 5),
zq 7 (.mv 6),
zg 8 7 true (.mv 0),
zg 9 7 true (.nilc 8),
zg 10 7 true (.fad 59 3 10 9),
zg 11 7 true (.ld 10 10),
zg 12 7 true (.bin .eql 11 (zi 0)),
zq 13 (.pick 7 12 (.k (.bool false)))]
def c63_2 : C := .reg (some [0]) [zq 14 (.mv 0),
zq 15 (.nilc 14),
zq 16 (.fad 59 1 0 15),
zw (.st 0 16 (.k (.bool true)))]
def c63_3 : C := .reg (some [0, 20]) [zq 17 (.mv 0),
zq 18 (.nilc 17),
zq 19 (.fad 59 1 0 18),
zq 20 (.ld 0 19)]
def c63_4 : C := .reg (some [2]) [zq 2 (.mv (zi 4))]
def c63_5 : C := .reg (some [0, 24]) [zq 21 (.mv 0),
zq 22 (.nilc 21),
zq 23 (.fad 59 2 0 22),
zq 24 (.ld 0 23)]
def c63_6 : C := .reg (some [0]) [zq 25 (.mv 0),
zq 26 (.nilc 25),
zq 27 (.fad 59 3 10 26),
zq 28 (.ld 10 27),
zq 29 (.bin .sub 28 (zi 1)),
zq 30 (.nilc 25),
zq 31 (.fad 59 3 10 30),
zw (.st 10 31 29)]
def c63_7 : C := .reg (some []) [zq 32 (.mv 0),
zq 33 (.nilc 32),
zq 34 (.fad 59 4 10 33),
zq 35 (.ld 10 34),
zq 36 (.bin .add 35 (zi 1)),
zq 37 (.nilc 32),
zq 38 (.fad 59 4 10 37),
zw (.st 10 38 36)]
def c63_8 : C := .reg (some [2]) [zq 2 (.mv (zi 0))]
/-- (*steadfast/nvm.Memory).step -/
@[go_sem] def fc_nvm_Memory_step : Fc := ⟨1,
  .seq (c63_0) (
  .seq (.seq (c63_1) (
  .cond (.t 13) (
    c63_2) (
    .skip))) (
  .seq (.seq (c63_3) (
  .cond (.t 20) (
    .seq (c63_4) (
    .ret)) (
    .skip))) (
  .seq (.seq (c63_5) (
  .cond (.t 24) (
    c63_6) (
    .skip))) (
  .seq (c63_7) (
  .seq (c63_8) (
  .ret)))))),
  [.t 2]⟩
def c64_0 : C := .reg (some [0]) [zq 2 (.mv (zi 0))]
def c64_1 : C := .reg (some [0, 4]) [zq 3 (.mv 0),
zq 4 (.bin .eql 3 (.k (.int .u64 0)))]
def c64_2 : C := .reg (some [2]) [zq 2 (.mv (zi 64))]
def c64_3 : C := .reg (some [2]) [zq 5 (.mv 0),
zq 6 (.mv 0),
zq 7 (.un .neg 6),
zq 8 (.bin .and 5 7),
zq 9 (.bin .mul 8 (.k (.int .u64 285870213051353865))),
zq 10 (.bin .shr 9 (.k (.int .u64 58))),
zq 11 (.iad 108 64 12 (.k glob_0) 10),
zq 12 (.ld 12 11),
zq 13 (.conv .i64 12),
zq 2 (.mv 13)]
/-- math/bits.TrailingZeros64 -/
@[go_sem] def fc_math_bits_TrailingZeros64 : Fc := ⟨1,
  .seq (c64_0) (
  .seq (.seq (c64_1) (
  .cond (.t 4) (
    .seq (c64_2) (
    .ret)) (
    .skip))) (
  .seq (c64_3) (
  .ret))),
  [.t 2]⟩
def c65_0 : C := .reg (some [0, 1, 2]) [zq 6 (.mv (.k (.bool false)))]
def c65_1 : C := .reg (some [6]) [zq 7 (.mv 0),
zq 8 (.mv 1),
zq 9 (.bin .geq 7 8),
zq 10 (.mv 9),
zg 11 10 true (.mv 0),
zg 12 10 true (.mv 2),
zg 13 10 true (.bin .leq 11 12),
zq 14 (.pick 10 13 (.k (.bool false))),
zq 6 (.mv 14)]
/-- steadfast/caps.within -/
@[go_sem] def fc_caps_within : Fc := ⟨3,
  .seq (c65_0) (
  .seq (c65_1) (
  .ret)),
  [.t 6]⟩
def c66_0 : C := .reg (some [0, 1]) [zq 4 (.mv (zi 0))]
def c66_1 : C := .reg (some [0, 1, 5]) [zq 6 (.mv 1),
zq 7 (.mv 0),
zq 8 (.nilc 7),
zq 9 (.fad 80 0 10 8),
zq 10 (.ld 10 9),
zq 11 (.bin .lss 6 10),
zq 5 (.mv 11)]
def c66_2 : C := .reg (some [0, 1, 5]) [zq 12 (.mv 1),
zq 13 (.mv 0),
zq 14 (.nilc 13),
zq 15 (.fad 80 1 10 14),
zq 16 (.ld 10 15),
zq 17 (.bin .geq 12 16),
zq 5 (.mv 17)]
def c66_3 : C := .reg (some [4]) [zq 4 (.mv (zi (-1)))]
def c66_4 : C := .reg (some [0, 1, 18]) [zq 19 (.mv 0),
zq 20 (.nilc 19),
zq 21 (.fad 80 2 78 20),
zq 22 (.mv 1),
zq 23 (.call (zf f_frames_set_has) [21, 22]),
zq 18 (.mv 23)]
def c66_5 : C := .reg (some [4]) [zq 4 (.mv (zi 0))]
def c66_6 : C := .reg (some [24]) [zq 25 (.mv 0),
zq 26 (.nilc 25),
zq 27 (.fad 80 3 78 26),
zq 28 (.mv 1),
zq 29 (.call (zf f_frames_set_has) [27, 28]),
zq 24 (.mv 29)]
def c66_7 : C := .reg (some [4]) [zq 4 (.mv (zi 2))]
def c66_8 : C := .reg (some [4]) [zq 4 (.mv (zi 1))]
/-- (*steadfast/frames.Frames).State -/
@[go_sem] def fc_frames_Frames_State : Fc := ⟨2,
  .seq (c66_0) (
  .seq (.block 0 (
    .seq (.seq (c66_1) (
    .cond (.t 5) (
      .skip) (
      c66_2))) (
    .cond (.t 5) (
      .seq (c66_3) (
      .ret)) (
      .seq (c66_4) (
      .cond (.t 18) (
        .seq (c66_5) (
        .ret)) (
        .seq (c66_6) (
        .cond (.t 24) (
          .seq (c66_7) (
          .ret)) (
          .skip)))))))) (
  .seq (c66_8) (
  .ret))),
  [.t 4]⟩
def c67_0 : C := .reg (some [0, 1]) [zq 4 (.mv (zi 0))]
def c67_1 : C := .reg (some [0, 1, 5]) [zq 6 (.mv 0),
zq 7 (.mv 1),
zq 8 (.call (zf f_frames_Frames_in) [6, 7, (zi 1)]),
zq 5 (.mv 8)]
def c67_2 : C := .reg (some [0, 1, 5, 10]) [zq 9 (.mv 5),
zq 10 (.bin .eql 9 (zi 0))]
def c67_3 : C := .reg (some [5]) [zq 11 (.mv 0),
zq 12 (.nilc 11),
zq 13 (.fad 80 3 78 12),
zq 14 (.mv 1),
zq 15 (.call (zf f_frames_set_turn) [13, 14])]
def c67_4 : C := .reg (some [4]) [zq 16 (.mv 5),
zq 4 (.mv 16)]
/-- (*steadfast/frames.Frames).Later -/
@[go_sem] def fc_frames_Frames_Later : Fc := ⟨2,
  .seq (c67_0) (
  .seq (c67_1) (
  .seq (.seq (c67_2) (
  .cond (.t 10) (
    c67_3) (
    .skip))) (
  .seq (c67_4) (
  .ret)))),
  [.t 4]⟩
def c68_0 : C := .reg (some [0, 7, 8]) [zq 4 (.mv 0),
zq 5 (.nilc 4),
zq 6 (.fad 80 3 78 5),
zq 7 (.ld 78 6),
zq 8 (.mv (zi 0))]
def c68_1 : C := .reg (some [0, 7, 8, 9]) [zq 9 (.bin .lss 8 (zi 16))]
def c68_2 : C := .reg (some [0, 2, 3, 7, 8]) [zq 10 (.mv 8),
zq 11 (.idx 78 16 7 8),
zq 2 (.mv 10),
zq 3 (.mv 11)]
def c68_3 : C := .regd (some [0, 7, 8]) [zq 12 (.mv 0),
zq 13 (.mv 2),
zq 14 (.nilc 12),
zq 15 (.fad 80 2 78 14),
zq 16 (.iad 78 16 18 15 13),
zq 17 (.ld 18 16),
zq 18 (.mv 3),
zq 19 (.bin .or 17 18),
zq 20 (.nilc 12),
zq 21 (.fad 80 2 78 20),
zq 22 (.iad 78 16 18 21 13),
zw (.st 18 22 19)]
def c68_4 : C := .reg (some [0, 7, 8]) [zq 23 (.bin .add 8 (zi 1)),
zq 8 (.mv 23)]
def c68_5 : C := .reg (some []) [zq 24 (.mv 0),
zq 25 (.bld (.agg 78 (List.replicate 16 (.int .u64 0))) []),
zq 26 (.nilc 24),
zq 27 (.fad 80 3 78 26),
zw (.st 78 27 25)]
def b_frames_Frames_Settle_0 : C :=
    .seq (c68_1) (
    .seq (.cond (.t 9) (
      .skip) (
      .exit 0)) (
    .seq (.block 1 (
      .seq (c68_2) (
      c68_3))) (
    c68_4)))
/-- (*steadfast/frames.Frames).Settle -/
@[go_sem] def fc_frames_Frames_Settle : Fc := ⟨1,
  .seq (.seq (c68_0) (
  .block 0 (
    .loop [0, 7, 8] b_frames_Frames_Settle_0))) (
  c68_5),
  []⟩
def c69_0 : C := .reg (some [0, 1]) [zq 4 (.mv (zi 0))]
def c69_1 : C := .regd (some [0, 1, 24]) [zq 5 (.mv 1),
zq 6 (.mv 0),
zq 7 (.nilc 6),
zq 8 (.fad 21 0 10 7),
zq 9 (.ld 10 8),
zq 10 (.bin .lss 5 9),
zq 11 (.mv 10),
zg 12 11 false (.mv 1),
zg 13 11 false (.mv 0),
zg 14 11 false (.nilc 13),
zg 15 11 false (.fad 21 0 10 14),
zg 16 11 false (.ld 10 15),
zg 17 11 false (.bin .sub 12 16),
zg 18 11 false (.mv 0),
zg 19 11 false (.nilc 18),
zg 20 11 false (.fad 21 1 1 19),
zg 21 11 false (.ld 1 20),
zg 22 11 false (.len false 21),
zg 23 11 false (.bin .geq 17 22),
zq 24 (.pick 11 (.k (.bool true)) 23)]
def c69_2 : C := .reg (some [4]) [zq 4 (.mv (zi (-1)))]
def c69_3 : C := .regd (some [4]) [zq 25 (.mv 0),
zq 26 (.nilc 25),
zq 27 (.fad 21 1 1 26),
zq 28 (.ld 1 27),
zq 29 (.mv 1),
zq 30 (.mv 0),
zq 31 (.nilc 30),
zq 32 (.fad 21 0 10 31),
zq 33 (.ld 10 32),
zq 34 (.bin .sub 29 33),
zq 35 (.sad 10 28 34),
zq 36 (.ld 10 35),
zq 4 (.mv 36)]
/-- (*steadfast/steadfastref04.Frames).State -/
@[go_sem] def fc_steadfastref04_Frames_State : Fc := ⟨2,
  .seq (c69_0) (
  .seq (.seq (c69_1) (
  .cond (.t 24) (
    .seq (c69_2) (
    .ret)) (
    .skip))) (
  .seq (c69_3) (
  .ret))),
  [.t 4]⟩
def c70_0 : C := .reg (some [0, 1]) [zq 4 (.mv (.k (.bool false)))]
def c70_1 : C := .reg (some [4]) [zq 5 (.mv 0),
zq 6 (.mv 1),
zq 7 (.bin .quo 6 (zi 64)),
zq 8 (.nilc 5),
zq 9 (.iad 78 16 18 8 7),
zq 10 (.ld 18 9),
zq 11 (.mv 1),
zq 12 (.bin .rem 11 (zi 64)),
zq 13 (.bin .shr 10 12),
zq 14 (.bin .and 13 (.k (.int .u64 1))),
zq 15 (.bin .eql 14 (.k (.int .u64 1))),
zq 4 (.mv 15)]
/-- (*steadfast/frames.set).has -/
@[go_sem] def fc_frames_set_has : Fc := ⟨2,
  .seq (c70_0) (
  .seq (c70_1) (
  .ret)),
  [.t 4]⟩
def D : Nat → Option Fc
  | 3 => some fc_steadfastlaw10_ObjectsOf
  | 4 => some fc_steadfastlaw10_ObjectsOnce
  | 5 => some fc_steadfastlaw10_ObjectsRoom
  | 6 => some fc_steadfastlaw10_ObjectsKeep
  | 7 => some fc_steadfastlaw10_ObjectsAgain
  | 8 => some fc_steadfastlaw10_ObjectsFree
  | 9 => some fc_steadfastlaw10_shown
  | 10 => some fc_nvm_New
  | 11 => some fc_steadfastref03_New
  | 12 => some fc_objects_Of
  | 13 => some fc_steadfastref10_Of
  | 14 => some fc_steadfastlaw10_like
  | 15 => some fc_steadfastlaw10_table
  | 16 => some fc_steadfastlaw10_dir
  | 17 => some fc_steadfastlaw10_kind
  | 18 => some fc_objects_Store_Left
  | 19 => some fc_objects_Store_Set
  | 20 => some fc_objects_Store_Get
  | 21 => some fc_objects_Store_Table
  | 22 => some fc_objects_Store_Mark
  | 23 => some fc_objects_Store_Take
  | 24 => some fc_objects_Store_Room
  | 25 => some fc_objects_Store_Make
  | 26 => some fc_objects_Store_End
  | 27 => some fc_nvm_Memory_Load
  | 28 => some fc_objects_Store_Base
  | 29 => some fc_objects_Store_Marked
  | 30 => some fc_objects_Store_Names
  | 31 => some fc_caps_Word
  | 32 => some fc_objects_Store_Commit
  | 33 => some fc_objects_Store_Abort
  | 34 => some fc_objects_Store_Next
  | 35 => some fc_steadfastref03_Of
  | 36 => some fc_frames_New
  | 37 => some fc_nvm_Memory_Lines
  | 38 => some fc_frames_Frames_Take
  | 39 => some fc_objects_Store_share
  | 40 => some fc_steadfastref04_New
  | 41 => some fc_steadfastref10_lines
  | 42 => some fc_steadfastref04_Frames_Take
  | 43 => some fc_steadfastref04_Frames_Left
  | 44 => some fc_frames_Frames_Left
  | 45 => some fc_objects_Store_is
  | 46 => some fc_objects_Store_own
  | 47 => some fc_nvm_Memory_Store
  | 48 => some fc_objects_Store_lay
  | 49 => some fc_frames_Frames_Alloc
  | 50 => some fc_frames_Frames_Free
  | 51 => some fc_entry_End
  | 52 => some fc_nvm_Memory_at
  | 53 => some fc_caps_Of
  | 54 => some fc_entry_Names
  | 55 => some fc_caps_may
  | 56 => some fc_objects_Store_unmark
  | 57 => some fc_entry_Open
  | 58 => some fc_frames_set_turn
  | 59 => some fc_frames_Frames_in
  | 60 => some fc_objects_lines_add
  | 61 => some fc_steadfastref04_Frames_turn
  | 62 => some fc_math_bits_OnesCount64
  | 63 => some fc_nvm_Memory_step
  | 64 => some fc_math_bits_TrailingZeros64
  | 65 => some fc_caps_within
  | 66 => some fc_frames_Frames_State
  | 67 => some fc_frames_Frames_Later
  | 68 => some fc_frames_Frames_Settle
  | 69 => some fc_steadfastref04_Frames_State
  | 70 => some fc_frames_set_has
  | _ => none
theorem D_steadfastlaw10_ObjectsOf : D f_steadfastlaw10_ObjectsOf = some fc_steadfastlaw10_ObjectsOf := rfl
theorem D_steadfastlaw10_ObjectsOnce : D f_steadfastlaw10_ObjectsOnce = some fc_steadfastlaw10_ObjectsOnce := rfl
theorem D_steadfastlaw10_ObjectsRoom : D f_steadfastlaw10_ObjectsRoom = some fc_steadfastlaw10_ObjectsRoom := rfl
theorem D_steadfastlaw10_ObjectsKeep : D f_steadfastlaw10_ObjectsKeep = some fc_steadfastlaw10_ObjectsKeep := rfl
theorem D_steadfastlaw10_ObjectsAgain : D f_steadfastlaw10_ObjectsAgain = some fc_steadfastlaw10_ObjectsAgain := rfl
theorem D_steadfastlaw10_ObjectsFree : D f_steadfastlaw10_ObjectsFree = some fc_steadfastlaw10_ObjectsFree := rfl
theorem D_steadfastlaw10_shown : D f_steadfastlaw10_shown = some fc_steadfastlaw10_shown := rfl
theorem D_nvm_New : D f_nvm_New = some fc_nvm_New := rfl
theorem D_steadfastref03_New : D f_steadfastref03_New = some fc_steadfastref03_New := rfl
theorem D_objects_Of : D f_objects_Of = some fc_objects_Of := rfl
theorem D_steadfastref10_Of : D f_steadfastref10_Of = some fc_steadfastref10_Of := rfl
theorem D_steadfastlaw10_like : D f_steadfastlaw10_like = some fc_steadfastlaw10_like := rfl
theorem D_steadfastlaw10_table : D f_steadfastlaw10_table = some fc_steadfastlaw10_table := rfl
theorem D_steadfastlaw10_dir : D f_steadfastlaw10_dir = some fc_steadfastlaw10_dir := rfl
theorem D_steadfastlaw10_kind : D f_steadfastlaw10_kind = some fc_steadfastlaw10_kind := rfl
theorem D_objects_Store_Left : D f_objects_Store_Left = some fc_objects_Store_Left := rfl
theorem D_objects_Store_Set : D f_objects_Store_Set = some fc_objects_Store_Set := rfl
theorem D_objects_Store_Get : D f_objects_Store_Get = some fc_objects_Store_Get := rfl
theorem D_objects_Store_Table : D f_objects_Store_Table = some fc_objects_Store_Table := rfl
theorem D_objects_Store_Mark : D f_objects_Store_Mark = some fc_objects_Store_Mark := rfl
theorem D_objects_Store_Take : D f_objects_Store_Take = some fc_objects_Store_Take := rfl
theorem D_objects_Store_Room : D f_objects_Store_Room = some fc_objects_Store_Room := rfl
theorem D_objects_Store_Make : D f_objects_Store_Make = some fc_objects_Store_Make := rfl
theorem D_objects_Store_End : D f_objects_Store_End = some fc_objects_Store_End := rfl
theorem D_nvm_Memory_Load : D f_nvm_Memory_Load = some fc_nvm_Memory_Load := rfl
theorem D_objects_Store_Base : D f_objects_Store_Base = some fc_objects_Store_Base := rfl
theorem D_objects_Store_Marked : D f_objects_Store_Marked = some fc_objects_Store_Marked := rfl
theorem D_objects_Store_Names : D f_objects_Store_Names = some fc_objects_Store_Names := rfl
theorem D_caps_Word : D f_caps_Word = some fc_caps_Word := rfl
theorem D_objects_Store_Commit : D f_objects_Store_Commit = some fc_objects_Store_Commit := rfl
theorem D_objects_Store_Abort : D f_objects_Store_Abort = some fc_objects_Store_Abort := rfl
theorem D_objects_Store_Next : D f_objects_Store_Next = some fc_objects_Store_Next := rfl
theorem D_steadfastref03_Of : D f_steadfastref03_Of = some fc_steadfastref03_Of := rfl
theorem D_frames_New : D f_frames_New = some fc_frames_New := rfl
theorem D_nvm_Memory_Lines : D f_nvm_Memory_Lines = some fc_nvm_Memory_Lines := rfl
theorem D_frames_Frames_Take : D f_frames_Frames_Take = some fc_frames_Frames_Take := rfl
theorem D_objects_Store_share : D f_objects_Store_share = some fc_objects_Store_share := rfl
theorem D_steadfastref04_New : D f_steadfastref04_New = some fc_steadfastref04_New := rfl
theorem D_steadfastref10_lines : D f_steadfastref10_lines = some fc_steadfastref10_lines := rfl
theorem D_steadfastref04_Frames_Take : D f_steadfastref04_Frames_Take = some fc_steadfastref04_Frames_Take := rfl
theorem D_steadfastref04_Frames_Left : D f_steadfastref04_Frames_Left = some fc_steadfastref04_Frames_Left := rfl
theorem D_frames_Frames_Left : D f_frames_Frames_Left = some fc_frames_Frames_Left := rfl
theorem D_objects_Store_is : D f_objects_Store_is = some fc_objects_Store_is := rfl
theorem D_objects_Store_own : D f_objects_Store_own = some fc_objects_Store_own := rfl
theorem D_nvm_Memory_Store : D f_nvm_Memory_Store = some fc_nvm_Memory_Store := rfl
theorem D_objects_Store_lay : D f_objects_Store_lay = some fc_objects_Store_lay := rfl
theorem D_frames_Frames_Alloc : D f_frames_Frames_Alloc = some fc_frames_Frames_Alloc := rfl
theorem D_frames_Frames_Free : D f_frames_Frames_Free = some fc_frames_Frames_Free := rfl
theorem D_entry_End : D f_entry_End = some fc_entry_End := rfl
theorem D_nvm_Memory_at : D f_nvm_Memory_at = some fc_nvm_Memory_at := rfl
theorem D_caps_Of : D f_caps_Of = some fc_caps_Of := rfl
theorem D_entry_Names : D f_entry_Names = some fc_entry_Names := rfl
theorem D_caps_may : D f_caps_may = some fc_caps_may := rfl
theorem D_objects_Store_unmark : D f_objects_Store_unmark = some fc_objects_Store_unmark := rfl
theorem D_entry_Open : D f_entry_Open = some fc_entry_Open := rfl
theorem D_frames_set_turn : D f_frames_set_turn = some fc_frames_set_turn := rfl
theorem D_frames_Frames_in : D f_frames_Frames_in = some fc_frames_Frames_in := rfl
theorem D_objects_lines_add : D f_objects_lines_add = some fc_objects_lines_add := rfl
theorem D_steadfastref04_Frames_turn : D f_steadfastref04_Frames_turn = some fc_steadfastref04_Frames_turn := rfl
theorem D_math_bits_OnesCount64 : D f_math_bits_OnesCount64 = some fc_math_bits_OnesCount64 := rfl
theorem D_nvm_Memory_step : D f_nvm_Memory_step = some fc_nvm_Memory_step := rfl
theorem D_math_bits_TrailingZeros64 : D f_math_bits_TrailingZeros64 = some fc_math_bits_TrailingZeros64 := rfl
theorem D_caps_within : D f_caps_within = some fc_caps_within := rfl
theorem D_frames_Frames_State : D f_frames_Frames_State = some fc_frames_Frames_State := rfl
theorem D_frames_Frames_Later : D f_frames_Frames_Later = some fc_frames_Frames_Later := rfl
theorem D_frames_Frames_Settle : D f_frames_Frames_Settle = some fc_frames_Frames_Settle := rfl
theorem D_steadfastref04_Frames_State : D f_steadfastref04_Frames_State = some fc_steadfastref04_Frames_State := rfl
theorem D_frames_set_has : D f_frames_set_has = some fc_frames_set_has := rfl
@[go_sem] def R3_0 (_base : Nat) (s : St) (v0 v1 v2 : V) : OR :=
 if V.ok v0 && mayNew false v0 then let x0 : V := .ptr (St.fresh s false) [] (V.tag v0); let s0 : St := St.new s false v0
 if V.ok v1 && mayNew false v1 then let x1 : V := .ptr (St.fresh s0 false) [] (V.tag v1); let s1 : St := St.new s0 false v1
 some (.normal, [(2, v2), (3, x0), (4, x1)], s1)
 else none
 else none
@[go_sem] theorem t3_0 : rc D b c3_0 ρ s = R3_0 b s (get ρ 0) (get ρ 1) (get ρ 2) := zr (by kernel_rfl)
@[go_sem] def R3_1 (_base : Nat) (s : St) (v2 v3 v4 : V) : OR :=
 obind (rf D f_steadfastlaw10_shown [] s) fun x0 =>
 some (.normal, [(2, v2), (3, v3), (4, v4), (7, x0.1)], x0.2)
@[go_sem] theorem t3_1 : rc D b c3_1 ρ s = R3_1 b s (get ρ 2) (get ρ 3) (get ρ 4) := zr (by kernel_rfl)
@[go_sem] def R3_2 (_base : Nat) (s : St) (v2 v3 v4 v7 : V) : OR :=
 obind (rf D f_nvm_New [(.int .i64 100)] s) fun x0 =>
 obind (extv 0 x0.1) fun x1 =>
 obind (extv 1 x0.1) fun _x2 =>
 some (.normal, [(2, v2), (3, v3), (4, v4), (7, v7), (8, x1)], x0.2)
@[go_sem] theorem t3_2 : rc D b c3_2 ρ s = R3_2 b s (get ρ 2) (get ρ 3) (get ρ 4) (get ρ 7) := zr (by kernel_rfl)
@[go_sem] def R3_3 (_base : Nat) (s : St) (v2 v3 v4 v7 v8 : V) : OR :=
 obind (rf D f_steadfastref03_New [(.int .i64 100)] s) fun x0 =>
 obind (extv 0 x0.1) fun x1 =>
 obind (extv 1 x0.1) fun _x2 =>
 some (.normal, [(2, v2), (3, v3), (4, v4), (7, v7), (8, v8), (10, x1)], x0.2)
@[go_sem] theorem t3_3 : rc D b c3_3 ρ s = R3_3 b s (get ρ 2) (get ρ 3) (get ρ 4) (get ρ 7) (get ρ 8) := zr (by kernel_rfl)
@[go_sem] def R3_4 (_base : Nat) (s : St) (v2 v3 v4 v7 v8 v10 : V) : OR :=
 obind (vun .not v7) fun x0 =>
 oguard x0 false (
   obind (eqv false 1 v8 .nilp) fun x1 =>
   some (.normal, [(2, v2), (3, v3), (4, v4), (8, v8), (10, v10), (30, x1)], s)) (
   some (.normal, [(2, v2), (3, v3), (4, v4), (8, v8), (10, v10), (30, (.bool true))], s)) (
   none)
@[go_sem] theorem t3_4 : rc D b c3_4 ρ s = R3_4 b s (get ρ 2) (get ρ 3) (get ρ 4) (get ρ 7) (get ρ 8) (get ρ 10) := zr (by kernel_rfl)
@[go_sem] def R3_5 (_base : Nat) (s : St) : OR :=
 some (.normal, [(6, (.bool false))], s)
@[go_sem] theorem t3_5 : rc D b c3_5 ρ s = R3_5 b s := zr (by kernel_rfl)
@[go_sem] def R3_6 (_base : Nat) (s : St) (v2 v3 v4 v8 v10 : V) : OR :=
 obind (ldv s 48 v3) fun x0 =>
 obind (ldv s 50 v4) fun x1 =>
 obind (rf D f_objects_Of [v8, v2, x0, x1] s) fun x2 =>
 obind (extv 0 x2.1) fun x3 =>
 obind (extv 1 x2.1) fun x4 =>
 some (.normal, [(2, v2), (3, v3), (4, v4), (10, v10), (12, x3), (13, x4)], x2.2)
@[go_sem] theorem t3_6 : rc D b c3_6 ρ s = R3_6 b s (get ρ 2) (get ρ 3) (get ρ 4) (get ρ 8) (get ρ 10) := zr (by kernel_rfl)
@[go_sem] def R3_7 (_base : Nat) (s : St) (v2 v3 v4 v10 v12 v13 : V) : OR :=
 obind (ldv s 48 v3) fun x0 =>
 obind (ldv s 50 v4) fun x1 =>
 obind (rf D f_steadfastref10_Of [v10, v2, x0, x1] s) fun x2 =>
 obind (extv 0 x2.1) fun x3 =>
 obind (extv 1 x2.1) fun x4 =>
 some (.normal, [(12, v12), (13, v13), (14, x3), (15, x4)], x2.2)
@[go_sem] theorem t3_7 : rc D b c3_7 ρ s = R3_7 b s (get ρ 2) (get ρ 3) (get ρ 4) (get ρ 10) (get ρ 12) (get ρ 13) := zr (by kernel_rfl)
@[go_sem] def R3_8 (_base : Nat) (s : St) (v12 v13 v14 v15 : V) : OR :=
 obind (vbin .neq v13 v15) fun x0 =>
 oguard x0 false (
   obind (eqv false 1 v12 .nilp) fun x1 =>
   obind (vbin .neq v13 (.int .i64 0)) fun x2 =>
   obind (eqv true 0 x1 x2) fun x3 =>
   some (.normal, [(12, v12), (14, v14), (56, x3)], s)) (
   some (.normal, [(12, v12), (14, v14), (56, (.bool true))], s)) (
   none)
@[go_sem] theorem t3_8 : rc D b c3_8 ρ s = R3_8 b s (get ρ 12) (get ρ 13) (get ρ 14) (get ρ 15) := zr (by kernel_rfl)
@[go_sem] def R3_9 (_base : Nat) (s : St) : OR :=
 some (.normal, [(6, (.bool false))], s)
@[go_sem] theorem t3_9 : rc D b c3_9 ρ s = R3_9 b s := zr (by kernel_rfl)
@[go_sem] def R3_10 (_base : Nat) (s : St) (v12 v14 : V) : OR :=
 obind (eqv false 1 v12 .nilp) fun x0 =>
 oguard x0 false (
   obind (rf D f_steadfastlaw10_like [v12, v14] s) fun x1 =>
   some (.normal, [(6, x1.1)], x1.2)) (
   some (.normal, [(6, (.bool true))], s)) (
   none)
@[go_sem] theorem t3_10 : rc D b c3_10 ρ s = R3_10 b s (get ρ 12) (get ρ 14) := zr (by kernel_rfl)
@[go_sem] def R4_0 (_base : Nat) (s : St) (v0 v1 : V) : OR :=
 some (.normal, [(0, v0), (1, v1)], s)
@[go_sem] theorem t4_0 : rc D b c4_0 ρ s = R4_0 b s (get ρ 0) (get ρ 1) := zr (by kernel_rfl)
@[go_sem] def R4_1 (_base : Nat) (s : St) (v0 v1 : V) : OR :=
 obind (rf D f_steadfastlaw10_shown [] s) fun x0 =>
 some (.normal, [(0, v0), (1, v1), (5, x0.1)], x0.2)
@[go_sem] theorem t4_1 : rc D b c4_1 ρ s = R4_1 b s (get ρ 0) (get ρ 1) := zr (by kernel_rfl)
@[go_sem] def R4_2 (_base : Nat) (s : St) (v0 v1 v5 : V) : OR :=
 obind (rf D f_nvm_New [(.int .i64 100)] s) fun x0 =>
 obind (extv 0 x0.1) fun x1 =>
 obind (extv 1 x0.1) fun _x2 =>
 some (.normal, [(0, v0), (1, v1), (5, v5), (6, x1)], x0.2)
@[go_sem] theorem t4_2 : rc D b c4_2 ρ s = R4_2 b s (get ρ 0) (get ρ 1) (get ρ 5) := zr (by kernel_rfl)
@[go_sem] def R4_3 (_base : Nat) (s : St) (v0 v1 v5 v6 : V) : OR :=
 obind (vun .not v5) fun x0 =>
 oguard x0 false (
   obind (eqv false 1 v6 .nilp) fun x1 =>
   some (.normal, [(0, v0), (1, v1), (6, v6), (30, x1)], s)) (
   some (.normal, [(0, v0), (1, v1), (6, v6), (30, (.bool true))], s)) (
   none)
@[go_sem] theorem t4_3 : rc D b c4_3 ρ s = R4_3 b s (get ρ 0) (get ρ 1) (get ρ 5) (get ρ 6) := zr (by kernel_rfl)
@[go_sem] def R4_4 (_base : Nat) (s : St) : OR :=
 some (.normal, [(4, (.bool false))], s)
@[go_sem] theorem t4_4 : rc D b c4_4 ρ s = R4_4 b s := zr (by kernel_rfl)
@[go_sem] def R4_5 (_base : Nat) (s : St) (v0 v1 v6 : V) : OR :=
 obind (rf D f_steadfastlaw10_table [(.int .i64 12)] s) fun x0 =>
 obind (rf D f_steadfastlaw10_dir [] x0.2) fun x1 =>
 obind (rf D f_objects_Of [v6, (.int .i64 10), x0.1, x1.1] x1.2) fun x2 =>
 obind (extv 0 x2.1) fun x3 =>
 obind (extv 1 x2.1) fun _x4 =>
 some (.normal, [(0, v0), (1, v1), (8, x3)], x2.2)
@[go_sem] theorem t4_5 : rc D b c4_5 ρ s = R4_5 b s (get ρ 0) (get ρ 1) (get ρ 6) := zr (by kernel_rfl)
@[go_sem] def R4_6 (_base : Nat) (s : St) (v0 v1 v8 : V) : OR :=
 obind (eqv false 1 v8 .nilp) fun x0 =>
 some (.normal, [(0, v0), (1, v1), (8, v8), (39, x0)], s)
@[go_sem] theorem t4_6 : rc D b c4_6 ρ s = R4_6 b s (get ρ 0) (get ρ 1) (get ρ 8) := zr (by kernel_rfl)
@[go_sem] def R4_7 (_base : Nat) (s : St) : OR :=
 some (.normal, [(4, (.bool false))], s)
@[go_sem] theorem t4_7 : rc D b c4_7 ρ s = R4_7 b s := zr (by kernel_rfl)
@[go_sem] def R4_8 (_base : Nat) (s : St) (v0 v1 v8 : V) : OR :=
 obind (rf D f_steadfastlaw10_kind [v0, (.int .i64 12)] s) fun x0 =>
 some (.normal, [(1, v1), (8, v8), (10, x0.1)], x0.2)
@[go_sem] theorem t4_8 : rc D b c4_8 ρ s = R4_8 b s (get ρ 0) (get ρ 1) (get ρ 8) := zr (by kernel_rfl)
@[go_sem] def R4_9 (_base : Nat) (s : St) (v1 v8 v10 : V) : OR :=
 obind (rf D f_objects_Store_Left [v8] s) fun x0 =>
 some (.normal, [(1, v1), (8, v8), (10, v10), (11, x0.1)], x0.2)
@[go_sem] theorem t4_9 : rc D b c4_9 ρ s = R4_9 b s (get ρ 1) (get ρ 8) (get ρ 10) := zr (by kernel_rfl)
@[go_sem] def R4_10 (base : Nat) (s : St) (v1 v8 v10 v11 : V) : OR :=
 obind (setParts (List.replicate 8 (.int .u64 0)) []) fun x0 =>
 let x1 : V := .ptr (St.fresh s false) [] 24; let s1 : St := St.new s false (.agg 24 (List.replicate 8 (.int .u64 0)))
 obind (stv base s1 24 (.agg 24 x0) x1) fun s2 =>
 some (.normal, [(1, v1), (8, v8), (10, v10), (11, v11), (12, x1)], s2)
@[go_sem] theorem t4_10 : rc D b c4_10 ρ s = R4_10 b s (get ρ 1) (get ρ 8) (get ρ 10) (get ρ 11) := zr (by kernel_rfl)
@[go_sem] def R4_11 (_base : Nat) (s : St) (v1 v8 v10 v11 v12 : V) : OR :=
 some (.normal, [(1, v1), (8, v8), (10, v10), (11, v11), (12, v12), (13, (.int .i64 0))], s)
@[go_sem] theorem t4_11 : rc D b c4_11 ρ s = R4_11 b s (get ρ 1) (get ρ 8) (get ρ 10) (get ρ 11) (get ρ 12) := zr (by kernel_rfl)
@[go_sem] def R4_12 (_base : Nat) (s : St) (v1 v8 v10 v11 v12 v13 : V) : OR :=
 obind (V.slen false v1) fun x0 =>
 obind (vbin .lss v13 (.int .i64 x0)) fun x1 =>
 oguard x1 true (
   obind (vbin .lss v13 (.int .i64 20)) fun x2 =>
   some (.normal, [(1, v1), (8, v8), (10, v10), (11, v11), (12, v12), (13, v13), (52, x2)], s)) (
   some (.normal, [(1, v1), (8, v8), (10, v10), (11, v11), (12, v12), (13, v13), (52, (.bool false))], s)) (
   none)
@[go_sem] theorem t4_12 : rc D b c4_12 ρ s = R4_12 b s (get ρ 1) (get ρ 8) (get ρ 10) (get ρ 11) (get ρ 12) (get ρ 13) := zr (by kernel_rfl)
@[go_sem] def R4_13 (_base : Nat) (s : St) (v1 v8 v10 v11 v12 v13 : V) : OR :=
 obind (vbin .rem v13 (.int .i64 8)) fun x0 =>
 obind (sadv 18 v1 v13) fun x1 =>
 obind (ldv s 18 x1) fun x2 =>
 obind (rf D f_objects_Store_Set [v8, v10, x0, x2] s) fun x3 =>
 obind (vbin .neq x3.1 (.int .i64 0)) fun x4 =>
 oguard x4 false (
   obind (rf D f_objects_Store_Left [v8] x3.2) fun x5 =>
   obind (vbin .sub v11 (.int .i64 1)) fun x6 =>
   obind (vbin .neq x5.1 x6) fun x7 =>
   some (.normal, [(1, v1), (8, v8), (10, v10), (11, v11), (12, v12), (13, v13), (71, x7)], x5.2)) (
   some (.normal, [(1, v1), (8, v8), (10, v10), (11, v11), (12, v12), (13, v13), (71, (.bool true))], x3.2)) (
   none)
@[go_sem] theorem t4_13 : rc D b c4_13 ρ s = R4_13 b s (get ρ 1) (get ρ 8) (get ρ 10) (get ρ 11) (get ρ 12) (get ρ 13) := zr (by kernel_rfl)
@[go_sem] def R4_14 (_base : Nat) (s : St) : OR :=
 some (.normal, [(4, (.bool false))], s)
@[go_sem] theorem t4_14 : rc D b c4_14 ρ s = R4_14 b s := zr (by kernel_rfl)
@[go_sem] def R4_15 (base : Nat) (s : St) (v1 v8 v10 v11 v12 v13 : V) : OR :=
 obind (vbin .rem v13 (.int .i64 8)) fun x0 =>
 obind (sadv 18 v1 v13) fun x1 =>
 obind (ldv s 18 x1) fun x2 =>
 obind (iadv 24 8 18 v12 x0) fun x3 =>
 obind (stv base s 18 x2 x3) fun s4 =>
 some (.normal, [(1, v1), (8, v8), (10, v10), (11, v11), (12, v12), (13, v13)], s4)
@[go_sem] theorem t4_15 : rc D b c4_15 ρ s = R4_15 b s (get ρ 1) (get ρ 8) (get ρ 10) (get ρ 11) (get ρ 12) (get ρ 13) := zr (by kernel_rfl)
@[go_sem] def R4_16 (_base : Nat) (s : St) (v1 v8 v10 v11 v12 v13 : V) : OR :=
 obind (vbin .add v13 (.int .i64 1)) fun x0 =>
 some (.normal, [(1, v1), (8, v8), (10, v10), (11, v11), (12, v12), (13, x0)], s)
@[go_sem] theorem t4_16 : rc D b c4_16 ρ s = R4_16 b s (get ρ 1) (get ρ 8) (get ρ 10) (get ρ 11) (get ρ 12) (get ρ 13) := zr (by kernel_rfl)
@[go_sem] def R4_17 (base : Nat) (s : St) (v8 v10 v12 : V) : OR :=
 obind (rf D f_objects_Store_Get [v8, v10] s) fun x0 =>
 obind (extv 0 x0.1) fun x1 =>
 obind (extv 1 x0.1) fun x2 =>
 let x3 : V := .ptr (St.fresh x0.2 false) [] 26; let s3 : St := St.new x0.2 false (.agg 26 [(.int .i64 0), (.int .i64 0), (.agg 24 (List.replicate 8 (.int .u64 0)))])
 obind (stv base s3 26 x1 x3) fun s4 =>
 some (.normal, [(8, v8), (10, v10), (12, v12), (14, x3), (15, x2)], s4)
@[go_sem] theorem t4_17 : rc D b c4_17 ρ s = R4_17 b s (get ρ 8) (get ρ 10) (get ρ 12) := zr (by kernel_rfl)
@[go_sem] def R4_18 (base : Nat) (s : St) (v8 v10 v12 v14 v15 : V) : OR :=
 obind (rf D f_objects_Store_Table [v8] s) fun x0 =>
 let x1 : V := .ptr (St.fresh x0.2 false) [] 48; let s1 : St := St.new x0.2 false (.agg 48 (List.replicate 49 (.agg 42 [(.int .i64 0), (.int .i64 0), (.int .i64 0)])))
 obind (stv base s1 48 x0.1 x1) fun s2 =>
 some (.normal, [(8, v8), (10, v10), (12, v12), (14, v14), (15, v15), (16, x1)], s2)
@[go_sem] theorem t4_18 : rc D b c4_18 ρ s = R4_18 b s (get ρ 8) (get ρ 10) (get ρ 12) (get ρ 14) (get ρ 15) := zr (by kernel_rfl)
@[go_sem] def R4_19 (_base : Nat) (s : St) (v8 v10 v12 v14 v15 v16 : V) : OR :=
 obind (rf D f_objects_Store_Mark [v8] s) fun x0 =>
 some (.normal, [(8, v8), (10, v10), (12, v12), (14, v14), (15, v15), (16, v16), (17, x0.1)], x0.2)
@[go_sem] theorem t4_19 : rc D b c4_19 ρ s = R4_19 b s (get ρ 8) (get ρ 10) (get ρ 12) (get ρ 14) (get ρ 15) (get ρ 16) := zr (by kernel_rfl)
@[go_sem] def R4_20 (_base : Nat) (s : St) (v8 v10 v12 v14 v15 v16 v17 : V) : OR :=
 obind (rf D f_objects_Store_Set [v8, v10, (.int .i64 0), (.int .u64 5)] s) fun x0 =>
 some (.normal, [(8, v8), (10, v10), (12, v12), (14, v14), (15, v15), (16, v16), (17, v17), (18, x0.1)], x0.2)
@[go_sem] theorem t4_20 : rc D b c4_20 ρ s = R4_20 b s (get ρ 8) (get ρ 10) (get ρ 12) (get ρ 14) (get ρ 15) (get ρ 16) (get ρ 17) := zr (by kernel_rfl)
@[go_sem] def R4_21 (base : Nat) (s : St) (v8 v10 v12 v14 v15 v16 v17 v18 : V) : OR :=
 obind (rf D f_objects_Store_Table [v8] s) fun x0 =>
 let x1 : V := .ptr (St.fresh x0.2 false) [] 48; let s1 : St := St.new x0.2 false (.agg 48 (List.replicate 49 (.agg 42 [(.int .i64 0), (.int .i64 0), (.int .i64 0)])))
 obind (stv base s1 48 x0.1 x1) fun s2 =>
 some (.normal, [(10, v10), (12, v12), (14, v14), (15, v15), (16, v16), (17, v17), (18, v18), (19, x1)], s2)
@[go_sem] theorem t4_21 : rc D b c4_21 ρ s = R4_21 b s (get ρ 8) (get ρ 10) (get ρ 12) (get ρ 14) (get ρ 15) (get ρ 16) (get ρ 17) (get ρ 18) := zr (by kernel_rfl)
@[go_sem] def R4_22 (_base : Nat) (s : St) (v10 v12 v14 v15 v16 v17 v18 v19 : V) : OR :=
 obind (vbin .eql v15 (.int .i64 0)) fun x0 =>
 oguard x0 true (
   obind (fadv 26 2 24 v14) fun x1 =>
   obind (ldv s 24 x1) fun x2 =>
   obind (ldv s 24 v12) fun x3 =>
   obind (eqv false 24 x2 x3) fun x4 =>
   oguard x4 true (
     obind (vbin .eql v17 (.int .i64 0)) fun x5 =>
     oguard x5 true (
       obind (vbin .eql v18 (.int .i64 0)) fun x6 =>
       oguard x6 true (
         obind (iadv 48 49 42 v16 v10) fun x7 =>
         obind (fadv 42 2 10 x7) fun x8 =>
         obind (ldv s 10 x8) fun x9 =>
         obind (iadv 48 49 42 v19 v10) fun x10 =>
         obind (fadv 42 2 10 x10) fun x11 =>
         obind (ldv s 10 x11) fun x12 =>
         obind (vbin .neq x9 x12) fun x13 =>
         some (.normal, [(4, x13)], s)) (
         some (.normal, [(4, (.bool false))], s)) (
         none)) (
       some (.normal, [(4, (.bool false))], s)) (
       none)) (
     some (.normal, [(4, (.bool false))], s)) (
     none)) (
   some (.normal, [(4, (.bool false))], s)) (
   none)
@[go_sem] theorem t4_22 : rc D b c4_22 ρ s = R4_22 b s (get ρ 10) (get ρ 12) (get ρ 14) (get ρ 15) (get ρ 16) (get ρ 17) (get ρ 18) (get ρ 19) := zd (by kernel_rfl)
@[go_sem] def R5_0 (_base : Nat) (s : St) (v0 v1 v2 : V) : OR :=
 some (.normal, [(0, v0), (1, v1), (2, v2)], s)
@[go_sem] theorem t5_0 : rc D b c5_0 ρ s = R5_0 b s (get ρ 0) (get ρ 1) (get ρ 2) := zr (by kernel_rfl)
@[go_sem] def R5_1 (_base : Nat) (s : St) (v0 v1 v2 : V) : OR :=
 obind (rf D f_steadfastlaw10_shown [] s) fun x0 =>
 some (.normal, [(0, v0), (1, v1), (2, v2), (7, x0.1)], x0.2)
@[go_sem] theorem t5_1 : rc D b c5_1 ρ s = R5_1 b s (get ρ 0) (get ρ 1) (get ρ 2) := zr (by kernel_rfl)
@[go_sem] def R5_2 (_base : Nat) (s : St) (v0 v1 v2 v7 : V) : OR :=
 obind (rf D f_steadfastlaw10_kind [v0, (.int .i64 64)] s) fun x0 =>
 obind (vbin .add (.int .i64 64) x0.1) fun x1 =>
 obind (rf D f_nvm_New [x1] x0.2) fun x2 =>
 obind (extv 0 x2.1) fun x3 =>
 obind (extv 1 x2.1) fun _x4 =>
 some (.normal, [(0, v0), (1, v1), (2, v2), (7, v7), (8, x3)], x2.2)
@[go_sem] theorem t5_2 : rc D b c5_2 ρ s = R5_2 b s (get ρ 0) (get ρ 1) (get ρ 2) (get ρ 7) := zr (by kernel_rfl)
@[go_sem] def R5_3 (_base : Nat) (s : St) (v0 v1 v2 v7 v8 : V) : OR :=
 obind (vun .not v7) fun x0 =>
 oguard x0 false (
   obind (eqv false 1 v8 .nilp) fun x1 =>
   some (.normal, [(0, v0), (1, v1), (2, v2), (8, v8), (34, x1)], s)) (
   some (.normal, [(0, v0), (1, v1), (2, v2), (8, v8), (34, (.bool true))], s)) (
   none)
@[go_sem] theorem t5_3 : rc D b c5_3 ρ s = R5_3 b s (get ρ 0) (get ρ 1) (get ρ 2) (get ρ 7) (get ρ 8) := zr (by kernel_rfl)
@[go_sem] def R5_4 (_base : Nat) (s : St) : OR :=
 some (.normal, [(6, (.bool false))], s)
@[go_sem] theorem t5_4 : rc D b c5_4 ρ s = R5_4 b s := zr (by kernel_rfl)
@[go_sem] def R5_5 (_base : Nat) (s : St) (v0 v1 v2 v8 : V) : OR :=
 obind (rf D f_steadfastlaw10_table [(.int .i64 12)] s) fun x0 =>
 obind (rf D f_steadfastlaw10_dir [] x0.2) fun x1 =>
 obind (rf D f_objects_Of [v8, (.int .i64 10), x0.1, x1.1] x1.2) fun x2 =>
 obind (extv 0 x2.1) fun x3 =>
 obind (extv 1 x2.1) fun _x4 =>
 some (.normal, [(0, v0), (1, v1), (2, v2), (10, x3)], x2.2)
@[go_sem] theorem t5_5 : rc D b c5_5 ρ s = R5_5 b s (get ρ 0) (get ρ 1) (get ρ 2) (get ρ 8) := zr (by kernel_rfl)
@[go_sem] def R5_6 (_base : Nat) (s : St) (v0 v1 v2 v10 : V) : OR :=
 obind (eqv false 1 v10 .nilp) fun x0 =>
 some (.normal, [(0, v0), (1, v1), (2, v2), (10, v10), (43, x0)], s)
@[go_sem] theorem t5_6 : rc D b c5_6 ρ s = R5_6 b s (get ρ 0) (get ρ 1) (get ρ 2) (get ρ 10) := zr (by kernel_rfl)
@[go_sem] def R5_7 (_base : Nat) (s : St) : OR :=
 some (.normal, [(6, (.bool false))], s)
@[go_sem] theorem t5_7 : rc D b c5_7 ρ s = R5_7 b s := zr (by kernel_rfl)
@[go_sem] def R5_8 (_base : Nat) (s : St) (v0 v1 v2 v10 : V) : OR :=
 obind (rf D f_objects_Store_Left [v10] s) fun x0 =>
 obind (rf D f_steadfastlaw10_kind [v0, (.int .i64 20)] x0.2) fun x1 =>
 obind (vbin .gtr x0.1 x1.1) fun x2 =>
 some (.normal, [(0, v0), (1, v1), (2, v2), (10, v10), (48, x2)], x1.2)
@[go_sem] theorem t5_8 : rc D b c5_8 ρ s = R5_8 b s (get ρ 0) (get ρ 1) (get ρ 2) (get ρ 10) := zr (by kernel_rfl)
@[go_sem] def R5_9 (_base : Nat) (s : St) (v0 v1 v2 v10 : V) : OR :=
 obind (rf D f_objects_Store_Take [v10] s) fun x0 =>
 some (.normal, [(0, v0), (1, v1), (2, v2), (10, v10)], x0.2)
@[go_sem] theorem t5_9 : rc D b c5_9 ρ s = R5_9 b s (get ρ 0) (get ρ 1) (get ρ 2) (get ρ 10) := zr (by kernel_rfl)
@[go_sem] def R5_10 (_base : Nat) (s : St) (v1 v2 v10 : V) : OR :=
 obind (bslv false 38 10 0 (.int .i64 0) s []) fun x0 =>
 some (.normal, [(1, v1), (2, v2), (10, v10), (12, x0.1)], x0.2)
@[go_sem] theorem t5_10 : rc D b c5_10 ρ s = R5_10 b s (get ρ 1) (get ρ 2) (get ρ 10) := zr (by kernel_rfl)
@[go_sem] def R5_11 (_base : Nat) (s : St) (v1 v2 v10 v12 : V) : OR :=
 some (.normal, [(1, v1), (2, v2), (10, v10), (12, v12), (13, (.int .i64 0))], s)
@[go_sem] theorem t5_11 : rc D b c5_11 ρ s = R5_11 b s (get ρ 1) (get ρ 2) (get ρ 10) (get ρ 12) := zr (by kernel_rfl)
@[go_sem] def R5_12 (_base : Nat) (s : St) (v1 v2 v10 v12 v13 : V) : OR :=
 obind (V.slen false v1) fun x0 =>
 obind (vbin .lss v13 (.int .i64 x0)) fun x1 =>
 oguard x1 true (
   obind (vbin .lss v13 (.int .i64 20)) fun x2 =>
   some (.normal, [(1, v1), (2, v2), (10, v10), (12, v12), (13, v13), (59, x2)], s)) (
   some (.normal, [(1, v1), (2, v2), (10, v10), (12, v12), (13, v13), (59, (.bool false))], s)) (
   none)
@[go_sem] theorem t5_12 : rc D b c5_12 ρ s = R5_12 b s (get ρ 1) (get ρ 2) (get ρ 10) (get ρ 12) (get ρ 13) := zr (by kernel_rfl)
@[go_sem] def R5_13 (base : Nat) (s : St) (v1 v2 v10 v12 v13 : V) : OR :=
 obind (sadv 10 v1 v13) fun x0 =>
 obind (ldv s 10 x0) fun x1 =>
 obind (rf D f_steadfastlaw10_kind [x1, (.int .i64 12)] s) fun x2 =>
 obind (bslv false 38 10 1 (.int .i64 0) x2.2 [(0, x2.1)]) fun x3 =>
 obind (vappend base true 38 10 v12 x3.1 x3.2) fun x4 =>
 some (.normal, [(1, v1), (2, v2), (10, v10), (12, x4.1), (13, v13)], x4.2)
@[go_sem] theorem t5_13 : rc D b c5_13 ρ s = R5_13 b s (get ρ 1) (get ρ 2) (get ρ 10) (get ρ 12) (get ρ 13) := zr (by kernel_rfl)
@[go_sem] def R5_14 (_base : Nat) (s : St) (v1 v2 v10 v12 v13 : V) : OR :=
 obind (vbin .add v13 (.int .i64 1)) fun x0 =>
 some (.normal, [(1, v1), (2, v2), (10, v10), (12, v12), (13, x0)], s)
@[go_sem] theorem t5_14 : rc D b c5_14 ρ s = R5_14 b s (get ρ 1) (get ρ 2) (get ρ 10) (get ρ 12) (get ρ 13) := zr (by kernel_rfl)
@[go_sem] def R5_15 (_base : Nat) (s : St) (v2 v10 v12 : V) : OR :=
 obind (rf D f_steadfastlaw10_kind [v2, (.int .i64 10)] s) fun x0 =>
 some (.normal, [(10, v10), (12, v12), (14, x0.1)], x0.2)
@[go_sem] theorem t5_15 : rc D b c5_15 ρ s = R5_15 b s (get ρ 2) (get ρ 10) (get ρ 12) := zr (by kernel_rfl)
@[go_sem] def R5_16 (_base : Nat) (s : St) (v10 v12 v14 : V) : OR :=
 obind (rf D f_objects_Store_Room [v10, v12, v14] s) fun x0 =>
 some (.normal, [(10, v10), (12, v12), (14, v14), (15, x0.1)], x0.2)
@[go_sem] theorem t5_16 : rc D b c5_16 ρ s = R5_16 b s (get ρ 10) (get ρ 12) (get ρ 14) := zr (by kernel_rfl)
@[go_sem] def R5_17 (_base : Nat) (s : St) (v10 v12 v14 v15 : V) : OR :=
 some (.normal, [(10, v10), (12, v12), (14, v14), (15, v15), (16, (.bool true))], s)
@[go_sem] theorem t5_17 : rc D b c5_17 ρ s = R5_17 b s (get ρ 10) (get ρ 12) (get ρ 14) (get ρ 15) := zr (by kernel_rfl)
@[go_sem] def R5_18 (_base : Nat) (s : St) (v10 v12 v14 v15 v16 : V) : OR :=
 some (.normal, [(10, v10), (12, v12), (14, v14), (15, v15), (16, v16), (17, (.int .i64 0))], s)
@[go_sem] theorem t5_18 : rc D b c5_18 ρ s = R5_18 b s (get ρ 10) (get ρ 12) (get ρ 14) (get ρ 15) (get ρ 16) := zr (by kernel_rfl)
@[go_sem] def R5_19 (_base : Nat) (s : St) (v10 v12 v14 v15 v16 v17 : V) : OR :=
 obind (V.slen false v12) fun x0 =>
 obind (vbin .lss v17 (.int .i64 x0)) fun x1 =>
 some (.normal, [(10, v10), (12, v12), (14, v14), (15, v15), (16, v16), (17, v17), (79, x1)], s)
@[go_sem] theorem t5_19 : rc D b c5_19 ρ s = R5_19 b s (get ρ 10) (get ρ 12) (get ρ 14) (get ρ 15) (get ρ 16) (get ρ 17) := zr (by kernel_rfl)
@[go_sem] def R5_20 (_base : Nat) (s : St) (v10 v12 v14 v15 v16 v17 : V) : OR :=
 oguard v16 true (
   obind (sadv 10 v12 v17) fun x0 =>
   obind (ldv s 10 x0) fun x1 =>
   obind (rf D f_objects_Store_Set [v10, x1, (.int .i64 0), (.int .u64 1)] s) fun x2 =>
   obind (vbin .eql x2.1 (.int .i64 0)) fun x3 =>
   some (.normal, [(10, v10), (12, v12), (14, v14), (15, v15), (16, x3), (17, v17)], x2.2)) (
   some (.normal, [(10, v10), (12, v12), (14, v14), (15, v15), (16, (.bool false)), (17, v17)], s)) (
   none)
@[go_sem] theorem t5_20 : rc D b c5_20 ρ s = R5_20 b s (get ρ 10) (get ρ 12) (get ρ 14) (get ρ 15) (get ρ 16) (get ρ 17) := zr (by kernel_rfl)
@[go_sem] def R5_21 (_base : Nat) (s : St) (v10 v12 v14 v15 v16 v17 : V) : OR :=
 obind (vbin .add v17 (.int .i64 1)) fun x0 =>
 some (.normal, [(10, v10), (12, v12), (14, v14), (15, v15), (16, v16), (17, x0)], s)
@[go_sem] theorem t5_21 : rc D b c5_21 ρ s = R5_21 b s (get ρ 10) (get ρ 12) (get ρ 14) (get ρ 15) (get ρ 16) (get ρ 17) := zr (by kernel_rfl)
@[go_sem] def R5_22 (_base : Nat) (s : St) (v10 v14 v15 v16 : V) : OR :=
 some (.normal, [(10, v10), (14, v14), (15, v15), (16, v16), (18, (.int .i64 0))], s)
@[go_sem] theorem t5_22 : rc D b c5_22 ρ s = R5_22 b s (get ρ 10) (get ρ 14) (get ρ 15) (get ρ 16) := zr (by kernel_rfl)
@[go_sem] def R5_23 (_base : Nat) (s : St) (v10 v14 v15 v16 v18 : V) : OR :=
 obind (vbin .lss v18 v14) fun x0 =>
 some (.normal, [(10, v10), (14, v14), (15, v15), (16, v16), (18, v18), (94, x0)], s)
@[go_sem] theorem t5_23 : rc D b c5_23 ρ s = R5_23 b s (get ρ 10) (get ρ 14) (get ρ 15) (get ρ 16) (get ρ 18) := zr (by kernel_rfl)
@[go_sem] def R5_24 (_base : Nat) (s : St) (v10 v14 v15 v16 v18 : V) : OR :=
 obind (rf D f_objects_Store_Make [v10, (.int .i64 1)] s) fun x0 =>
 obind (extv 0 x0.1) fun _x1 =>
 obind (extv 1 x0.1) fun x2 =>
 some (.normal, [(10, v10), (14, v14), (15, v15), (16, v16), (18, v18), (20, x2)], x0.2)
@[go_sem] theorem t5_24 : rc D b c5_24 ρ s = R5_24 b s (get ρ 10) (get ρ 14) (get ρ 15) (get ρ 16) (get ρ 18) := zr (by kernel_rfl)
@[go_sem] def R5_25 (_base : Nat) (s : St) (v10 v14 v15 v16 v18 v20 : V) : OR :=
 oguard v16 true (
   obind (vbin .eql v20 (.int .i64 0)) fun x0 =>
   some (.normal, [(10, v10), (14, v14), (15, v15), (16, x0), (18, v18)], s)) (
   some (.normal, [(10, v10), (14, v14), (15, v15), (16, (.bool false)), (18, v18)], s)) (
   none)
@[go_sem] theorem t5_25 : rc D b c5_25 ρ s = R5_25 b s (get ρ 10) (get ρ 14) (get ρ 15) (get ρ 16) (get ρ 18) (get ρ 20) := zr (by kernel_rfl)
@[go_sem] def R5_26 (_base : Nat) (s : St) (v10 v14 v15 v16 v18 : V) : OR :=
 obind (vbin .add v18 (.int .i64 1)) fun x0 =>
 some (.normal, [(10, v10), (14, v14), (15, v15), (16, v16), (18, x0)], s)
@[go_sem] theorem t5_26 : rc D b c5_26 ρ s = R5_26 b s (get ρ 10) (get ρ 14) (get ρ 15) (get ρ 16) (get ρ 18) := zr (by kernel_rfl)
@[go_sem] def R5_27 (_base : Nat) (s : St) (v15 v16 : V) : OR :=
 obind (eqv false 0 v15 v16) fun x0 =>
 some (.normal, [(6, x0)], s)
@[go_sem] theorem t5_27 : rc D b c5_27 ρ s = R5_27 b s (get ρ 15) (get ρ 16) := zr (by kernel_rfl)
@[go_sem] def R6_0 (_base : Nat) (s : St) (v0 v1 : V) : OR :=
 some (.normal, [(0, v0), (1, v1)], s)
@[go_sem] theorem t6_0 : rc D b c6_0 ρ s = R6_0 b s (get ρ 0) (get ρ 1) := zr (by kernel_rfl)
@[go_sem] def R6_1 (_base : Nat) (s : St) (v0 v1 : V) : OR :=
 obind (rf D f_steadfastlaw10_shown [] s) fun x0 =>
 some (.normal, [(0, v0), (1, v1), (5, x0.1)], x0.2)
@[go_sem] theorem t6_1 : rc D b c6_1 ρ s = R6_1 b s (get ρ 0) (get ρ 1) := zr (by kernel_rfl)
@[go_sem] def R6_2 (_base : Nat) (s : St) (v0 v1 v5 : V) : OR :=
 obind (rf D f_nvm_New [(.int .i64 100)] s) fun x0 =>
 obind (extv 0 x0.1) fun x1 =>
 obind (extv 1 x0.1) fun _x2 =>
 some (.normal, [(0, v0), (1, v1), (5, v5), (6, x1)], x0.2)
@[go_sem] theorem t6_2 : rc D b c6_2 ρ s = R6_2 b s (get ρ 0) (get ρ 1) (get ρ 5) := zr (by kernel_rfl)
@[go_sem] def R6_3 (_base : Nat) (s : St) (v0 v1 v5 v6 : V) : OR :=
 obind (vun .not v5) fun x0 =>
 oguard x0 false (
   obind (eqv false 1 v6 .nilp) fun x1 =>
   some (.normal, [(0, v0), (1, v1), (6, v6), (34, x1)], s)) (
   some (.normal, [(0, v0), (1, v1), (6, v6), (34, (.bool true))], s)) (
   none)
@[go_sem] theorem t6_3 : rc D b c6_3 ρ s = R6_3 b s (get ρ 0) (get ρ 1) (get ρ 5) (get ρ 6) := zr (by kernel_rfl)
@[go_sem] def R6_4 (_base : Nat) (s : St) : OR :=
 some (.normal, [(4, (.bool false))], s)
@[go_sem] theorem t6_4 : rc D b c6_4 ρ s = R6_4 b s := zr (by kernel_rfl)
@[go_sem] def R6_5 (_base : Nat) (s : St) (v0 v1 v6 : V) : OR :=
 obind (rf D f_steadfastlaw10_table [(.int .i64 12)] s) fun x0 =>
 obind (rf D f_steadfastlaw10_dir [] x0.2) fun x1 =>
 obind (rf D f_objects_Of [v6, (.int .i64 10), x0.1, x1.1] x1.2) fun x2 =>
 obind (extv 0 x2.1) fun x3 =>
 obind (extv 1 x2.1) fun _x4 =>
 some (.normal, [(0, v0), (1, v1), (6, v6), (8, x3)], x2.2)
@[go_sem] theorem t6_5 : rc D b c6_5 ρ s = R6_5 b s (get ρ 0) (get ρ 1) (get ρ 6) := zr (by kernel_rfl)
@[go_sem] def R6_6 (_base : Nat) (s : St) (v0 v1 v6 v8 : V) : OR :=
 obind (eqv false 1 v8 .nilp) fun x0 =>
 some (.normal, [(0, v0), (1, v1), (6, v6), (8, v8), (43, x0)], s)
@[go_sem] theorem t6_6 : rc D b c6_6 ρ s = R6_6 b s (get ρ 0) (get ρ 1) (get ρ 6) (get ρ 8) := zr (by kernel_rfl)
@[go_sem] def R6_7 (_base : Nat) (s : St) : OR :=
 some (.normal, [(4, (.bool false))], s)
@[go_sem] theorem t6_7 : rc D b c6_7 ρ s = R6_7 b s := zr (by kernel_rfl)
@[go_sem] def R6_8 (_base : Nat) (s : St) (v0 v1 v6 v8 : V) : OR :=
 obind (mkslv false 58 24 (.agg 24 (List.replicate 8 (.int .u64 0))) s (.int .i64 100) (.int .i64 100)) fun x0 =>
 some (.normal, [(0, v0), (1, v1), (6, v6), (8, v8), (10, x0.1)], x0.2)
@[go_sem] theorem t6_8 : rc D b c6_8 ρ s = R6_8 b s (get ρ 0) (get ρ 1) (get ρ 6) (get ρ 8) := zr (by kernel_rfl)
@[go_sem] def R6_9 (_base : Nat) (s : St) (v0 v1 v6 v8 v10 : V) : OR :=
 some (.normal, [(0, v0), (1, v1), (6, v6), (8, v8), (10, v10), (11, (.bool false))], s)
@[go_sem] theorem t6_9 : rc D b c6_9 ρ s = R6_9 b s (get ρ 0) (get ρ 1) (get ρ 6) (get ρ 8) (get ρ 10) := zr (by kernel_rfl)
@[go_sem] def R6_10 (_base : Nat) (s : St) (v0 v1 v6 v8 v10 v11 : V) : OR :=
 some (.normal, [(0, v0), (1, v1), (6, v6), (8, v8), (10, v10), (11, v11), (12, (.int .i64 0))], s)
@[go_sem] theorem t6_10 : rc D b c6_10 ρ s = R6_10 b s (get ρ 0) (get ρ 1) (get ρ 6) (get ρ 8) (get ρ 10) (get ρ 11) := zr (by kernel_rfl)
@[go_sem] def R6_11 (_base : Nat) (s : St) (v0 v1 v6 v8 v10 v11 v12 : V) : OR :=
 obind (V.slen false v0) fun x0 =>
 obind (vbin .lss v12 (.int .i64 x0)) fun x1 =>
 oguard x1 true (
   obind (vbin .lss v12 (.int .i64 80)) fun x2 =>
   some (.normal, [(0, v0), (1, v1), (6, v6), (8, v8), (10, v10), (11, v11), (12, v12), (52, x2)], s)) (
   some (.normal, [(0, v0), (1, v1), (6, v6), (8, v8), (10, v10), (11, v11), (12, v12), (52, (.bool false))], s)) (
   none)
@[go_sem] theorem t6_11 : rc D b c6_11 ρ s = R6_11 b s (get ρ 0) (get ρ 1) (get ρ 6) (get ρ 8) (get ρ 10) (get ρ 11) (get ρ 12) := zr (by kernel_rfl)
@[go_sem] def R6_12 (base : Nat) (s : St) (v0 v1 v6 v8 v10 v11 v12 : V) : OR :=
 obind (sadv 54 v0 v12) fun x0 =>
 obind (ldv s 54 x0) fun x1 =>
 let x2 : V := .ptr (St.fresh s false) [] 54; let s2 : St := St.new s false (.agg 54 [(.int .i64 0), (.int .i64 0), (.int .i64 0), (.int .u64 0)])
 obind (stv base s2 54 x1 x2) fun s3 =>
 some (.normal, [(0, v0), (1, v1), (6, v6), (8, v8), (10, v10), (11, v11), (12, v12), (13, x2)], s3)
@[go_sem] theorem t6_12 : rc D b c6_12 ρ s = R6_12 b s (get ρ 0) (get ρ 1) (get ρ 6) (get ρ 8) (get ρ 10) (get ρ 11) (get ρ 12) := zr (by kernel_rfl)
@[go_sem] def R6_13 (_base : Nat) (s : St) (v0 v1 v6 v8 v10 v11 v12 v13 : V) : OR :=
 obind (fadv 54 0 10 v13) fun x0 =>
 obind (ldv s 10 x0) fun x1 =>
 obind (rf D f_steadfastlaw10_kind [x1, (.int .i64 3)] s) fun x2 =>
 some (.normal, [(0, v0), (1, v1), (6, v6), (8, v8), (10, v10), (11, v11), (12, v12), (13, v13), (61, x2.1)], x2.2)
@[go_sem] theorem t6_13 : rc D b c6_13 ρ s = R6_13 b s (get ρ 0) (get ρ 1) (get ρ 6) (get ρ 8) (get ρ 10) (get ρ 11) (get ρ 12) (get ρ 13) := zr (by kernel_rfl)
@[go_sem] def R6_14 (_base : Nat) (s : St) (v0 v1 v6 v8 v10 v11 v12 v13 v61 : V) : OR :=
 obind (vbin .eql v61 (.int .i64 0)) fun x0 =>
 some (.normal, [(0, v0), (1, v1), (6, v6), (8, v8), (10, v10), (11, v11), (12, v12), (13, v13), (61, v61), (62, x0)], s)
@[go_sem] theorem t6_14 : rc D b c6_14 ρ s = R6_14 b s (get ρ 0) (get ρ 1) (get ρ 6) (get ρ 8) (get ρ 10) (get ρ 11) (get ρ 12) (get ρ 13) (get ρ 61) := zr (by kernel_rfl)
@[go_sem] def R6_15 (base : Nat) (s : St) (v0 v1 v6 v8 v10 v11 v12 v13 : V) : OR :=
 obind (fadv 54 1 10 v13) fun x0 =>
 obind (ldv s 10 x0) fun x1 =>
 obind (pcallw D (pcut base [x1, (.int .i64 20)]) base f_steadfastlaw10_kind [x1, (.int .i64 20)] s) fun x2 =>
 obind (fadv 54 2 10 v13) fun x3 =>
 obind (ldv s 10 x3) fun x4 =>
 obind (pcallw D (pcut base [x4, (.int .i64 8)]) base f_steadfastlaw10_kind [x4, (.int .i64 8)] s) fun x5 =>
 obind (fadv 54 3 18 v13) fun x6 =>
 obind (ldv s 18 x6) fun x7 =>
 obind (rf D f_objects_Store_Set [v8, x2, x5, x7] s) fun x8 =>
 some (.normal, [(0, v0), (1, v1), (6, v6), (8, v8), (10, v10), (11, v11), (12, v12)], x8.2)
@[go_sem] theorem t6_15 : rc D b c6_15 ρ s = R6_15 b s (get ρ 0) (get ρ 1) (get ρ 6) (get ρ 8) (get ρ 10) (get ρ 11) (get ρ 12) (get ρ 13) := zd (by kernel_rfl)
@[go_sem] def R6_16 (_base : Nat) (s : St) (v0 v1 v6 v8 v10 v11 v12 v13 v61 : V) : OR :=
 obind (vbin .eql v61 (.int .i64 1)) fun x0 =>
 some (.normal, [(0, v0), (1, v1), (6, v6), (8, v8), (10, v10), (11, v11), (12, v12), (13, v13), (61, v61), (74, x0)], s)
@[go_sem] theorem t6_16 : rc D b c6_16 ρ s = R6_16 b s (get ρ 0) (get ρ 1) (get ρ 6) (get ρ 8) (get ρ 10) (get ρ 11) (get ρ 12) (get ρ 13) (get ρ 61) := zr (by kernel_rfl)
@[go_sem] def R6_17 (_base : Nat) (s : St) (v0 v1 v6 v8 v10 v11 v12 v13 : V) : OR :=
 obind (fadv 54 2 10 v13) fun x0 =>
 obind (ldv s 10 x0) fun x1 =>
 obind (rf D f_steadfastlaw10_kind [x1, (.int .i64 2)] s) fun x2 =>
 obind (vbin .add (.int .i64 1) x2.1) fun x3 =>
 obind (rf D f_objects_Store_Make [v8, x3] x2.2) fun x4 =>
 some (.normal, [(0, v0), (1, v1), (6, v6), (8, v8), (10, v10), (11, v11), (12, v12)], x4.2)
@[go_sem] theorem t6_17 : rc D b c6_17 ρ s = R6_17 b s (get ρ 0) (get ρ 1) (get ρ 6) (get ρ 8) (get ρ 10) (get ρ 11) (get ρ 12) (get ρ 13) := zr (by kernel_rfl)
@[go_sem] def R6_18 (_base : Nat) (s : St) (v0 v1 v6 v8 v10 v11 v12 v13 v61 : V) : OR :=
 obind (vbin .eql v61 (.int .i64 2)) fun x0 =>
 some (.normal, [(0, v0), (1, v1), (6, v6), (8, v8), (10, v10), (11, v11), (12, v12), (13, v13), (82, x0)], s)
@[go_sem] theorem t6_18 : rc D b c6_18 ρ s = R6_18 b s (get ρ 0) (get ρ 1) (get ρ 6) (get ρ 8) (get ρ 10) (get ρ 11) (get ρ 12) (get ρ 13) (get ρ 61) := zr (by kernel_rfl)
@[go_sem] def R6_19 (_base : Nat) (s : St) (v0 v1 v6 v8 v10 v11 v12 v13 : V) : OR :=
 obind (fadv 54 1 10 v13) fun x0 =>
 obind (ldv s 10 x0) fun x1 =>
 obind (rf D f_steadfastlaw10_kind [x1, (.int .i64 20)] s) fun x2 =>
 obind (rf D f_objects_Store_End [v8, x2.1] x2.2) fun x3 =>
 some (.normal, [(0, v0), (1, v1), (6, v6), (8, v8), (10, v10), (11, v11), (12, v12)], x3.2)
@[go_sem] theorem t6_19 : rc D b c6_19 ρ s = R6_19 b s (get ρ 0) (get ρ 1) (get ρ 6) (get ρ 8) (get ρ 10) (get ρ 11) (get ρ 12) (get ρ 13) := zr (by kernel_rfl)
@[go_sem] def R6_20 (_base : Nat) (s : St) (v0 v1 v6 v8 v10 v11 v12 : V) : OR :=
 obind (vun .not v11) fun x0 =>
 oguard x0 true (
   obind (rf D f_steadfastlaw10_kind [v1, (.int .i64 80)] s) fun x1 =>
   obind (vbin .eql v12 x1.1) fun x2 =>
   some (.normal, [(0, v0), (1, v1), (6, v6), (8, v8), (10, v10), (11, v11), (12, v12), (96, x2)], x1.2)) (
   some (.normal, [(0, v0), (1, v1), (6, v6), (8, v8), (10, v10), (11, v11), (12, v12), (96, (.bool false))], s)) (
   none)
@[go_sem] theorem t6_20 : rc D b c6_20 ρ s = R6_20 b s (get ρ 0) (get ρ 1) (get ρ 6) (get ρ 8) (get ρ 10) (get ρ 11) (get ρ 12) := zr (by kernel_rfl)
@[go_sem] def R6_21 (_base : Nat) (s : St) (v0 v1 v6 v8 v10 v12 : V) : OR :=
 some (.normal, [(0, v0), (1, v1), (6, v6), (8, v8), (10, v10), (11, (.bool true)), (12, v12)], s)
@[go_sem] theorem t6_21 : rc D b c6_21 ρ s = R6_21 b s (get ρ 0) (get ρ 1) (get ρ 6) (get ρ 8) (get ρ 10) (get ρ 12) := zr (by kernel_rfl)
@[go_sem] def R6_22 (_base : Nat) (s : St) (v0 v1 v6 v8 v10 v11 v12 : V) : OR :=
 obind (rf D f_objects_Store_Mark [v8] s) fun x0 =>
 obind (vbin .neq x0.1 (.int .i64 0)) fun x1 =>
 some (.normal, [(0, v0), (1, v1), (6, v6), (8, v8), (10, v10), (11, v11), (12, v12), (99, x1)], x0.2)
@[go_sem] theorem t6_22 : rc D b c6_22 ρ s = R6_22 b s (get ρ 0) (get ρ 1) (get ρ 6) (get ρ 8) (get ρ 10) (get ρ 11) (get ρ 12) := zr (by kernel_rfl)
@[go_sem] def R6_23 (_base : Nat) (s : St) : OR :=
 some (.normal, [(4, (.bool false))], s)
@[go_sem] theorem t6_23 : rc D b c6_23 ρ s = R6_23 b s := zr (by kernel_rfl)
@[go_sem] def R6_24 (_base : Nat) (s : St) (v0 v1 v6 v8 v10 v11 v12 : V) : OR :=
 some (.normal, [(0, v0), (1, v1), (6, v6), (8, v8), (10, v10), (11, v11), (12, v12), (14, (.int .i64 0))], s)
@[go_sem] theorem t6_24 : rc D b c6_24 ρ s = R6_24 b s (get ρ 0) (get ρ 1) (get ρ 6) (get ρ 8) (get ρ 10) (get ρ 11) (get ρ 12) := zr (by kernel_rfl)
@[go_sem] def R6_25 (_base : Nat) (s : St) (v0 v1 v6 v8 v10 v11 v12 v14 : V) : OR :=
 obind (vbin .lss v14 (.int .i64 100)) fun x0 =>
 some (.normal, [(0, v0), (1, v1), (6, v6), (8, v8), (10, v10), (11, v11), (12, v12), (14, v14), (101, x0)], s)
@[go_sem] theorem t6_25 : rc D b c6_25 ρ s = R6_25 b s (get ρ 0) (get ρ 1) (get ρ 6) (get ρ 8) (get ρ 10) (get ρ 11) (get ρ 12) (get ρ 14) := zr (by kernel_rfl)
@[go_sem] def R6_26 (base : Nat) (s : St) (v0 v1 v6 v8 v10 v11 v12 v14 : V) : OR :=
 obind (rf D f_nvm_Memory_Load [v6, v14] s) fun x0 =>
 obind (extv 0 x0.1) fun x1 =>
 obind (extv 1 x0.1) fun _x2 =>
 obind (sadv 24 v10 v14) fun x3 =>
 obind (stv base x0.2 24 x1 x3) fun s4 =>
 some (.normal, [(0, v0), (1, v1), (6, v6), (8, v8), (10, v10), (11, v11), (12, v12), (14, v14)], s4)
@[go_sem] theorem t6_26 : rc D b c6_26 ρ s = R6_26 b s (get ρ 0) (get ρ 1) (get ρ 6) (get ρ 8) (get ρ 10) (get ρ 11) (get ρ 12) (get ρ 14) := zr (by kernel_rfl)
@[go_sem] def R6_27 (_base : Nat) (s : St) (v0 v1 v6 v8 v10 v11 v12 v14 : V) : OR :=
 obind (vbin .add v14 (.int .i64 1)) fun x0 =>
 some (.normal, [(0, v0), (1, v1), (6, v6), (8, v8), (10, v10), (11, v11), (12, v12), (14, x0)], s)
@[go_sem] theorem t6_27 : rc D b c6_27 ρ s = R6_27 b s (get ρ 0) (get ρ 1) (get ρ 6) (get ρ 8) (get ρ 10) (get ρ 11) (get ρ 12) (get ρ 14) := zr (by kernel_rfl)
@[go_sem] def R6_28 (_base : Nat) (s : St) (v0 v1 v6 v8 v10 v11 v12 : V) : OR :=
 obind (vbin .add v12 (.int .i64 1)) fun x0 =>
 some (.normal, [(0, v0), (1, v1), (6, v6), (8, v8), (10, v10), (11, v11), (12, x0)], s)
@[go_sem] theorem t6_28 : rc D b c6_28 ρ s = R6_28 b s (get ρ 0) (get ρ 1) (get ρ 6) (get ρ 8) (get ρ 10) (get ρ 11) (get ρ 12) := zr (by kernel_rfl)
@[go_sem] def R6_29 (base : Nat) (s : St) (v6 v8 v10 v11 : V) : OR :=
 obind (rf D f_objects_Store_Base [v8] s) fun x0 =>
 obind (extv 0 x0.1) fun x1 =>
 obind (extv 1 x0.1) fun x2 =>
 let x3 : V := .ptr (St.fresh x0.2 false) [] 48; let s3 : St := St.new x0.2 false (.agg 48 (List.replicate 49 (.agg 42 [(.int .i64 0), (.int .i64 0), (.int .i64 0)])))
 let x4 : V := .ptr (St.fresh s3 false) [] 50; let s4 : St := St.new s3 false (.agg 50 (List.replicate 8 (.int .i64 0)))
 obind (stv base s4 48 x1 x3) fun s5 =>
 obind (stv base s5 50 x2 x4) fun s6 =>
 some (.normal, [(6, v6), (8, v8), (10, v10), (11, v11), (15, x3)], s6)
@[go_sem] theorem t6_29 : rc D b c6_29 ρ s = R6_29 b s (get ρ 6) (get ρ 8) (get ρ 10) (get ρ 11) := zr (by kernel_rfl)
@[go_sem] def R6_30 (base : Nat) (s : St) (v6 v8 v10 v11 v15 : V) : OR :=
 obind (rf D f_objects_Store_Marked [v8] s) fun x0 =>
 obind (extv 0 x0.1) fun x1 =>
 obind (extv 1 x0.1) fun x2 =>
 let x3 : V := .ptr (St.fresh x0.2 false) [] 48; let s3 : St := St.new x0.2 false (.agg 48 (List.replicate 49 (.agg 42 [(.int .i64 0), (.int .i64 0), (.int .i64 0)])))
 obind (stv base s3 48 x1 x3) fun s4 =>
 some (.normal, [(6, v6), (10, v10), (11, v11), (15, v15), (17, x3), (18, x2)], s4)
@[go_sem] theorem t6_30 : rc D b c6_30 ρ s = R6_30 b s (get ρ 6) (get ρ 8) (get ρ 10) (get ρ 11) (get ρ 15) := zr (by kernel_rfl)
@[go_sem] def R6_31 (_base : Nat) (s : St) (v6 v10 v11 v15 v17 v18 : V) : OR :=
 obind (eqv true 0 v18 v11) fun x0 =>
 some (.normal, [(6, v6), (10, v10), (15, v15), (17, v17), (18, v18), (125, x0)], s)
@[go_sem] theorem t6_31 : rc D b c6_31 ρ s = R6_31 b s (get ρ 6) (get ρ 10) (get ρ 11) (get ρ 15) (get ρ 17) (get ρ 18) := zr (by kernel_rfl)
@[go_sem] def R6_32 (_base : Nat) (s : St) : OR :=
 some (.normal, [(4, (.bool false))], s)
@[go_sem] theorem t6_32 : rc D b c6_32 ρ s = R6_32 b s := zr (by kernel_rfl)
@[go_sem] def R6_33 (_base : Nat) (s : St) (v6 v10 v15 v17 v18 : V) : OR :=
 some (.normal, [(6, v6), (10, v10), (15, v15), (17, v17), (18, v18), (19, (.int .i64 0))], s)
@[go_sem] theorem t6_33 : rc D b c6_33 ρ s = R6_33 b s (get ρ 6) (get ρ 10) (get ρ 15) (get ρ 17) (get ρ 18) := zr (by kernel_rfl)
@[go_sem] def R6_34 (_base : Nat) (s : St) (v6 v10 v15 v17 v18 v19 : V) : OR :=
 obind (vbin .lss v19 (.int .i64 49)) fun x0 =>
 some (.normal, [(6, v6), (10, v10), (15, v15), (17, v17), (18, v18), (19, v19), (127, x0)], s)
@[go_sem] theorem t6_34 : rc D b c6_34 ρ s = R6_34 b s (get ρ 6) (get ρ 10) (get ρ 15) (get ρ 17) (get ρ 18) (get ρ 19) := zr (by kernel_rfl)
@[go_sem] def R6_35 (base : Nat) (s : St) (v6 v10 v15 v17 v18 v19 : V) : OR :=
 obind (iadv 48 49 42 v15 v19) fun x0 =>
 obind (fadv 42 2 10 x0) fun x1 =>
 obind (ldv s 10 x1) fun x2 =>
 obind (rf D f_nvm_Memory_Load [v6, x2] s) fun x3 =>
 obind (extv 0 x3.1) fun x4 =>
 obind (extv 1 x3.1) fun _x5 =>
 let x6 : V := .ptr (St.fresh x3.2 false) [] 24; let s6 : St := St.new x3.2 false (.agg 24 (List.replicate 8 (.int .u64 0)))
 obind (stv base s6 24 x4 x6) fun s7 =>
 some (.normal, [(6, v6), (10, v10), (15, v15), (17, v17), (18, v18), (19, v19), (20, x6)], s7)
@[go_sem] theorem t6_35 : rc D b c6_35 ρ s = R6_35 b s (get ρ 6) (get ρ 10) (get ρ 15) (get ρ 17) (get ρ 18) (get ρ 19) := zr (by kernel_rfl)
@[go_sem] def R6_36 (_base : Nat) (s : St) (v6 v10 v15 v17 v18 v19 v20 : V) : OR :=
 obind (iadv 48 49 42 v15 v19) fun x0 =>
 obind (fadv 42 0 10 x0) fun x1 =>
 obind (ldv s 10 x1) fun x2 =>
 obind (vbin .neq x2 (.int .i64 0)) fun x3 =>
 oguard x3 true (
   obind (ldv s 24 v20) fun x4 =>
   obind (setParts (List.replicate 8 (.int .u64 0)) []) fun x5 =>
   obind (eqv true 24 x4 (.agg 24 x5)) fun x6 =>
   some (.normal, [(6, v6), (10, v10), (15, v15), (17, v17), (18, v18), (19, v19), (148, x6)], s)) (
   some (.normal, [(6, v6), (10, v10), (15, v15), (17, v17), (18, v18), (19, v19), (148, (.bool false))], s)) (
   none)
@[go_sem] theorem t6_36 : rc D b c6_36 ρ s = R6_36 b s (get ρ 6) (get ρ 10) (get ρ 15) (get ρ 17) (get ρ 18) (get ρ 19) (get ρ 20) := zr (by kernel_rfl)
@[go_sem] def R6_37 (_base : Nat) (s : St) : OR :=
 some (.normal, [(4, (.bool false))], s)
@[go_sem] theorem t6_37 : rc D b c6_37 ρ s = R6_37 b s := zr (by kernel_rfl)
@[go_sem] def R6_38 (base : Nat) (s : St) (v6 v10 v15 v17 v18 v19 : V) : OR :=
 obind (iadv 48 49 42 v17 v19) fun x0 =>
 obind (fadv 42 2 10 x0) fun x1 =>
 obind (ldv s 10 x1) fun x2 =>
 obind (rf D f_nvm_Memory_Load [v6, x2] s) fun x3 =>
 obind (extv 0 x3.1) fun x4 =>
 obind (extv 1 x3.1) fun _x5 =>
 let x6 : V := .ptr (St.fresh x3.2 false) [] 24; let s6 : St := St.new x3.2 false (.agg 24 (List.replicate 8 (.int .u64 0)))
 obind (stv base s6 24 x4 x6) fun s7 =>
 some (.normal, [(6, v6), (10, v10), (15, v15), (17, v17), (18, v18), (19, v19), (22, x6)], s7)
@[go_sem] theorem t6_38 : rc D b c6_38 ρ s = R6_38 b s (get ρ 6) (get ρ 10) (get ρ 15) (get ρ 17) (get ρ 18) (get ρ 19) := zr (by kernel_rfl)
@[go_sem] def R6_39 (_base : Nat) (s : St) (v6 v10 v15 v17 v18 v19 v22 : V) : OR :=
 oguard v18 true (
   obind (iadv 48 49 42 v17 v19) fun x0 =>
   obind (fadv 42 0 10 x0) fun x1 =>
   obind (ldv s 10 x1) fun x2 =>
   obind (vbin .neq x2 (.int .i64 0)) fun x3 =>
   oguard x3 true (
     obind (ldv s 24 v22) fun x4 =>
     obind (iadv 48 49 42 v17 v19) fun x5 =>
     obind (fadv 42 2 10 x5) fun x6 =>
     obind (ldv s 10 x6) fun x7 =>
     obind (sadv 24 v10 x7) fun x8 =>
     obind (ldv s 24 x8) fun x9 =>
     obind (eqv true 24 x4 x9) fun x10 =>
     some (.normal, [(6, v6), (10, v10), (15, v15), (17, v17), (18, v18), (19, v19), (176, x10)], s)) (
     some (.normal, [(6, v6), (10, v10), (15, v15), (17, v17), (18, v18), (19, v19), (176, (.bool false))], s)) (
     none)) (
   some (.normal, [(6, v6), (10, v10), (15, v15), (17, v17), (18, v18), (19, v19), (176, (.bool false))], s)) (
   none)
@[go_sem] theorem t6_39 : rc D b c6_39 ρ s = R6_39 b s (get ρ 6) (get ρ 10) (get ρ 15) (get ρ 17) (get ρ 18) (get ρ 19) (get ρ 22) := zd (by kernel_rfl)
@[go_sem] def R6_40 (_base : Nat) (s : St) : OR :=
 some (.normal, [(4, (.bool false))], s)
@[go_sem] theorem t6_40 : rc D b c6_40 ρ s = R6_40 b s := zr (by kernel_rfl)
@[go_sem] def R6_41 (_base : Nat) (s : St) (v6 v10 v15 v17 v18 v19 : V) : OR :=
 obind (vbin .add v19 (.int .i64 1)) fun x0 =>
 some (.normal, [(6, v6), (10, v10), (15, v15), (17, v17), (18, v18), (19, x0)], s)
@[go_sem] theorem t6_41 : rc D b c6_41 ρ s = R6_41 b s (get ρ 6) (get ρ 10) (get ρ 15) (get ρ 17) (get ρ 18) (get ρ 19) := zr (by kernel_rfl)
@[go_sem] def R6_42 (_base : Nat) (s : St) : OR :=
 some (.normal, [(4, (.bool true))], s)
@[go_sem] theorem t6_42 : rc D b c6_42 ρ s = R6_42 b s := zr (by kernel_rfl)
@[go_sem] def R7_0 (_base : Nat) (s : St) (v0 v1 : V) : OR :=
 some (.normal, [(0, v0), (1, v1)], s)
@[go_sem] theorem t7_0 : rc D b c7_0 ρ s = R7_0 b s (get ρ 0) (get ρ 1) := zr (by kernel_rfl)
@[go_sem] def R7_1 (_base : Nat) (s : St) (v0 v1 : V) : OR :=
 obind (rf D f_steadfastlaw10_shown [] s) fun x0 =>
 some (.normal, [(0, v0), (1, v1), (5, x0.1)], x0.2)
@[go_sem] theorem t7_1 : rc D b c7_1 ρ s = R7_1 b s (get ρ 0) (get ρ 1) := zr (by kernel_rfl)
@[go_sem] def R7_2 (_base : Nat) (s : St) (v0 v1 v5 : V) : OR :=
 obind (rf D f_nvm_New [(.int .i64 100)] s) fun x0 =>
 obind (extv 0 x0.1) fun x1 =>
 obind (extv 1 x0.1) fun _x2 =>
 some (.normal, [(0, v0), (1, v1), (5, v5), (6, x1)], x0.2)
@[go_sem] theorem t7_2 : rc D b c7_2 ρ s = R7_2 b s (get ρ 0) (get ρ 1) (get ρ 5) := zr (by kernel_rfl)
@[go_sem] def R7_3 (_base : Nat) (s : St) (v0 v1 v5 v6 : V) : OR :=
 obind (vun .not v5) fun x0 =>
 oguard x0 false (
   obind (eqv false 1 v6 .nilp) fun x1 =>
   some (.normal, [(0, v0), (1, v1), (6, v6), (33, x1)], s)) (
   some (.normal, [(0, v0), (1, v1), (6, v6), (33, (.bool true))], s)) (
   none)
@[go_sem] theorem t7_3 : rc D b c7_3 ρ s = R7_3 b s (get ρ 0) (get ρ 1) (get ρ 5) (get ρ 6) := zr (by kernel_rfl)
@[go_sem] def R7_4 (_base : Nat) (s : St) : OR :=
 some (.normal, [(4, (.bool false))], s)
@[go_sem] theorem t7_4 : rc D b c7_4 ρ s = R7_4 b s := zr (by kernel_rfl)
@[go_sem] def R7_5 (_base : Nat) (s : St) (v0 v1 v6 : V) : OR :=
 obind (rf D f_steadfastlaw10_table [(.int .i64 0)] s) fun x0 =>
 obind (rf D f_steadfastlaw10_dir [] x0.2) fun x1 =>
 obind (rf D f_objects_Of [v6, (.int .i64 10), x0.1, x1.1] x1.2) fun x2 =>
 obind (extv 0 x2.1) fun x3 =>
 obind (extv 1 x2.1) fun _x4 =>
 some (.normal, [(0, v0), (1, v1), (8, x3)], x2.2)
@[go_sem] theorem t7_5 : rc D b c7_5 ρ s = R7_5 b s (get ρ 0) (get ρ 1) (get ρ 6) := zr (by kernel_rfl)
@[go_sem] def R7_6 (_base : Nat) (s : St) (v0 v1 v8 : V) : OR :=
 obind (eqv false 1 v8 .nilp) fun x0 =>
 some (.normal, [(0, v0), (1, v1), (8, v8), (42, x0)], s)
@[go_sem] theorem t7_6 : rc D b c7_6 ρ s = R7_6 b s (get ρ 0) (get ρ 1) (get ρ 8) := zr (by kernel_rfl)
@[go_sem] def R7_7 (_base : Nat) (s : St) : OR :=
 some (.normal, [(4, (.bool false))], s)
@[go_sem] theorem t7_7 : rc D b c7_7 ρ s = R7_7 b s := zr (by kernel_rfl)
@[go_sem] def R7_8 (_base : Nat) (s : St) (v0 v1 v8 : V) : OR :=
 obind (bslv false 38 10 3 (.int .i64 0) s [(0, (.int .i64 1)), (1, (.int .i64 2)), (2, (.int .i64 4))]) fun x0 =>
 obind (rf D f_steadfastlaw10_kind [v0, (.int .i64 3)] x0.2) fun x1 =>
 obind (sadv 10 x0.1 x1.1) fun x2 =>
 obind (ldv x1.2 10 x2) fun x3 =>
 some (.normal, [(1, v1), (8, v8), (10, x3)], x1.2)
@[go_sem] theorem t7_8 : rc D b c7_8 ρ s = R7_8 b s (get ρ 0) (get ρ 1) (get ρ 8) := zr (by kernel_rfl)
@[go_sem] def R7_9 (_base : Nat) (s : St) (v1 v8 v10 : V) : OR :=
 some (.normal, [(1, v1), (8, v8), (10, v10), (11, (.int .u64 0))], s)
@[go_sem] theorem t7_9 : rc D b c7_9 ρ s = R7_9 b s (get ρ 1) (get ρ 8) (get ρ 10) := zr (by kernel_rfl)
@[go_sem] def R7_10 (_base : Nat) (s : St) (v1 v8 v10 v11 : V) : OR :=
 some (.normal, [(1, v1), (8, v8), (10, v10), (11, v11), (12, (.int .i64 0))], s)
@[go_sem] theorem t7_10 : rc D b c7_10 ρ s = R7_10 b s (get ρ 1) (get ρ 8) (get ρ 10) (get ρ 11) := zr (by kernel_rfl)
@[go_sem] def R7_11 (_base : Nat) (s : St) (v1 v8 v10 v11 v12 : V) : OR :=
 obind (rf D f_steadfastlaw10_kind [v1, (.int .i64 21)] s) fun x0 =>
 obind (vbin .lss v12 x0.1) fun x1 =>
 some (.normal, [(1, v1), (8, v8), (10, v10), (11, v11), (12, v12), (51, x1)], x0.2)
@[go_sem] theorem t7_11 : rc D b c7_11 ρ s = R7_11 b s (get ρ 1) (get ρ 8) (get ρ 10) (get ρ 11) (get ρ 12) := zr (by kernel_rfl)
@[go_sem] def R7_12 (_base : Nat) (s : St) (v1 v8 v10 v11 v12 : V) : OR :=
 obind (rf D f_objects_Store_Make [v8, v10] s) fun x0 =>
 obind (extv 0 x0.1) fun x1 =>
 obind (extv 1 x0.1) fun x2 =>
 some (.normal, [(1, v1), (8, v8), (10, v10), (11, v11), (12, v12), (13, x1), (14, x2)], x0.2)
@[go_sem] theorem t7_12 : rc D b c7_12 ρ s = R7_12 b s (get ρ 1) (get ρ 8) (get ρ 10) (get ρ 11) (get ρ 12) := zr (by kernel_rfl)
@[go_sem] def R7_13 (base : Nat) (s : St) (v1 v8 v10 v11 v12 v13 v14 : V) : OR :=
 obind (rf D f_objects_Store_Get [v8, (.int .i64 0)] s) fun x0 =>
 obind (extv 0 x0.1) fun x1 =>
 obind (extv 1 x0.1) fun x2 =>
 let x3 : V := .ptr (St.fresh x0.2 false) [] 26; let s3 : St := St.new x0.2 false (.agg 26 [(.int .i64 0), (.int .i64 0), (.agg 24 (List.replicate 8 (.int .u64 0)))])
 obind (stv base s3 26 x1 x3) fun s4 =>
 some (.normal, [(1, v1), (8, v8), (10, v10), (11, v11), (12, v12), (13, v13), (14, v14), (15, x3), (16, x2)], s4)
@[go_sem] theorem t7_13 : rc D b c7_13 ρ s = R7_13 b s (get ρ 1) (get ρ 8) (get ρ 10) (get ρ 11) (get ρ 12) (get ρ 13) (get ρ 14) := zr (by kernel_rfl)
@[go_sem] def R7_14 (_base : Nat) (s : St) (v1 v8 v10 v11 v12 v13 v14 v15 v16 : V) : OR :=
 obind (vbin .neq v13 (.int .i64 0)) fun x0 =>
 oguard x0 false (
   obind (vbin .neq v14 (.int .i64 0)) fun x1 =>
   oguard x1 false (
     obind (vbin .neq v16 (.int .i64 0)) fun x2 =>
     oguard x2 false (
       obind (fadv 26 2 24 v15) fun x3 =>
       obind (ldv s 24 x3) fun x4 =>
       obind (setParts (List.replicate 8 (.int .u64 0)) []) fun x5 =>
       obind (eqv true 24 x4 (.agg 24 x5)) fun x6 =>
       oguard x6 false (
         obind (fadv 26 1 10 v15) fun x7 =>
         obind (ldv s 10 x7) fun x8 =>
         obind (vbin .neq x8 v12) fun x9 =>
         some (.normal, [(1, v1), (8, v8), (10, v10), (11, v11), (12, v12), (86, x9)], s)) (
         some (.normal, [(1, v1), (8, v8), (10, v10), (11, v11), (12, v12), (86, (.bool true))], s)) (
         none)) (
       some (.normal, [(1, v1), (8, v8), (10, v10), (11, v11), (12, v12), (86, (.bool true))], s)) (
       none)) (
     some (.normal, [(1, v1), (8, v8), (10, v10), (11, v11), (12, v12), (86, (.bool true))], s)) (
     none)) (
   some (.normal, [(1, v1), (8, v8), (10, v10), (11, v11), (12, v12), (86, (.bool true))], s)) (
   none)
@[go_sem] theorem t7_14 : rc D b c7_14 ρ s = R7_14 b s (get ρ 1) (get ρ 8) (get ρ 10) (get ρ 11) (get ρ 12) (get ρ 13) (get ρ 14) (get ρ 15) (get ρ 16) := zr (by kernel_rfl)
@[go_sem] def R7_15 (_base : Nat) (s : St) : OR :=
 some (.normal, [(4, (.bool false))], s)
@[go_sem] theorem t7_15 : rc D b c7_15 ρ s = R7_15 b s := zr (by kernel_rfl)
@[go_sem] def R7_16 (_base : Nat) (s : St) (v1 v8 v10 v11 v12 : V) : OR :=
 obind (rf D f_objects_Store_Names [v8, v11] s) fun x0 =>
 obind (extv 0 x0.1) fun _x1 =>
 obind (extv 1 x0.1) fun x2 =>
 some (.normal, [(1, v1), (8, v8), (10, v10), (12, v12), (18, x2)], x0.2)
@[go_sem] theorem t7_16 : rc D b c7_16 ρ s = R7_16 b s (get ρ 1) (get ρ 8) (get ρ 10) (get ρ 11) (get ρ 12) := zr (by kernel_rfl)
@[go_sem] def R7_17 (_base : Nat) (s : St) (v1 v8 v10 v12 v18 : V) : OR :=
 obind (setParts [(.int .i64 0), (.int .i64 0), (.int .i64 0), (.int .i64 0), (.int .i64 0)] [(0, v10), (3, v12)]) fun x0 =>
 obind (rf D f_caps_Word [(.agg 40 x0)] s) fun x1 =>
 obind (extv 0 x1.1) fun x2 =>
 obind (extv 1 x1.1) fun _x3 =>
 some (.normal, [(1, v1), (8, v8), (10, v10), (12, v12), (18, v18), (19, x2)], x1.2)
@[go_sem] theorem t7_17 : rc D b c7_17 ρ s = R7_17 b s (get ρ 1) (get ρ 8) (get ρ 10) (get ρ 12) (get ρ 18) := zr (by kernel_rfl)
@[go_sem] def R7_18 (_base : Nat) (s : St) (v1 v8 v10 v12 v18 v19 : V) : OR :=
 obind (rf D f_objects_Store_Names [v8, v19] s) fun x0 =>
 obind (extv 0 x0.1) fun x1 =>
 obind (extv 1 x0.1) fun x2 =>
 some (.normal, [(1, v1), (8, v8), (10, v10), (12, v12), (18, v18), (19, v19), (21, x1), (22, x2)], x0.2)
@[go_sem] theorem t7_18 : rc D b c7_18 ρ s = R7_18 b s (get ρ 1) (get ρ 8) (get ρ 10) (get ρ 12) (get ρ 18) (get ρ 19) := zr (by kernel_rfl)
@[go_sem] def R7_19 (_base : Nat) (s : St) (v1 v8 v10 v12 v18 v19 v21 v22 : V) : OR :=
 obind (vbin .eql v18 (.int .i64 0)) fun x0 =>
 oguard x0 false (
   obind (vbin .neq v21 (.int .i64 0)) fun x1 =>
   oguard x1 false (
     obind (vbin .neq v22 (.int .i64 0)) fun x2 =>
     some (.normal, [(1, v1), (8, v8), (10, v10), (12, v12), (19, v19), (115, x2)], s)) (
     some (.normal, [(1, v1), (8, v8), (10, v10), (12, v12), (19, v19), (115, (.bool true))], s)) (
     none)) (
   some (.normal, [(1, v1), (8, v8), (10, v10), (12, v12), (19, v19), (115, (.bool true))], s)) (
   none)
@[go_sem] theorem t7_19 : rc D b c7_19 ρ s = R7_19 b s (get ρ 1) (get ρ 8) (get ρ 10) (get ρ 12) (get ρ 18) (get ρ 19) (get ρ 21) (get ρ 22) := zr (by kernel_rfl)
@[go_sem] def R7_20 (_base : Nat) (s : St) : OR :=
 some (.normal, [(4, (.bool false))], s)
@[go_sem] theorem t7_20 : rc D b c7_20 ρ s = R7_20 b s := zr (by kernel_rfl)
@[go_sem] def R7_21 (_base : Nat) (s : St) (v1 v8 v10 v12 v19 : V) : OR :=
 some (.normal, [(1, v1), (8, v8), (10, v10), (11, v19), (12, v12)], s)
@[go_sem] theorem t7_21 : rc D b c7_21 ρ s = R7_21 b s (get ρ 1) (get ρ 8) (get ρ 10) (get ρ 12) (get ρ 19) := zr (by kernel_rfl)
@[go_sem] def R7_22 (_base : Nat) (s : St) (v1 v8 v10 v11 v12 : V) : OR :=
 obind (rf D f_objects_Store_Set [v8, (.int .i64 0), (.int .i64 3), (.int .u64 9)] s) fun x0 =>
 some (.normal, [(1, v1), (8, v8), (10, v10), (11, v11), (12, v12)], x0.2)
@[go_sem] theorem t7_22 : rc D b c7_22 ρ s = R7_22 b s (get ρ 1) (get ρ 8) (get ρ 10) (get ρ 11) (get ρ 12) := zr (by kernel_rfl)
@[go_sem] def R7_23 (_base : Nat) (s : St) (v1 v8 v10 v11 v12 : V) : OR :=
 obind (rf D f_objects_Store_End [v8, (.int .i64 0)] s) fun x0 =>
 obind (vbin .neq x0.1 (.int .i64 0)) fun x1 =>
 some (.normal, [(1, v1), (8, v8), (10, v10), (11, v11), (12, v12), (121, x1)], x0.2)
@[go_sem] theorem t7_23 : rc D b c7_23 ρ s = R7_23 b s (get ρ 1) (get ρ 8) (get ρ 10) (get ρ 11) (get ρ 12) := zr (by kernel_rfl)
@[go_sem] def R7_24 (_base : Nat) (s : St) : OR :=
 some (.normal, [(4, (.bool false))], s)
@[go_sem] theorem t7_24 : rc D b c7_24 ρ s = R7_24 b s := zr (by kernel_rfl)
@[go_sem] def R7_25 (_base : Nat) (s : St) (v1 v8 v10 v11 v12 : V) : OR :=
 obind (vbin .add v12 (.int .i64 1)) fun x0 =>
 some (.normal, [(1, v1), (8, v8), (10, v10), (11, v11), (12, x0)], s)
@[go_sem] theorem t7_25 : rc D b c7_25 ρ s = R7_25 b s (get ρ 1) (get ρ 8) (get ρ 10) (get ρ 11) (get ρ 12) := zr (by kernel_rfl)
@[go_sem] def R7_26 (_base : Nat) (s : St) : OR :=
 some (.normal, [(4, (.bool true))], s)
@[go_sem] theorem t7_26 : rc D b c7_26 ρ s = R7_26 b s := zr (by kernel_rfl)
@[go_sem] def R8_0 (_base : Nat) (s : St) (v0 v1 : V) : OR :=
 some (.normal, [(0, v0), (1, v1)], s)
@[go_sem] theorem t8_0 : rc D b c8_0 ρ s = R8_0 b s (get ρ 0) (get ρ 1) := zr (by kernel_rfl)
@[go_sem] def R8_1 (_base : Nat) (s : St) (v0 v1 : V) : OR :=
 obind (rf D f_steadfastlaw10_shown [] s) fun x0 =>
 some (.normal, [(0, v0), (1, v1), (5, x0.1)], x0.2)
@[go_sem] theorem t8_1 : rc D b c8_1 ρ s = R8_1 b s (get ρ 0) (get ρ 1) := zr (by kernel_rfl)
@[go_sem] def R8_2 (_base : Nat) (s : St) (v0 v1 v5 : V) : OR :=
 obind (rf D f_nvm_New [(.int .i64 100)] s) fun x0 =>
 obind (extv 0 x0.1) fun x1 =>
 obind (extv 1 x0.1) fun _x2 =>
 some (.normal, [(0, v0), (1, v1), (5, v5), (6, x1)], x0.2)
@[go_sem] theorem t8_2 : rc D b c8_2 ρ s = R8_2 b s (get ρ 0) (get ρ 1) (get ρ 5) := zr (by kernel_rfl)
@[go_sem] def R8_3 (_base : Nat) (s : St) (v0 v1 v5 v6 : V) : OR :=
 obind (vun .not v5) fun x0 =>
 oguard x0 false (
   obind (eqv false 1 v6 .nilp) fun x1 =>
   some (.normal, [(0, v0), (1, v1), (6, v6), (35, x1)], s)) (
   some (.normal, [(0, v0), (1, v1), (6, v6), (35, (.bool true))], s)) (
   none)
@[go_sem] theorem t8_3 : rc D b c8_3 ρ s = R8_3 b s (get ρ 0) (get ρ 1) (get ρ 5) (get ρ 6) := zr (by kernel_rfl)
@[go_sem] def R8_4 (_base : Nat) (s : St) : OR :=
 some (.normal, [(4, (.bool false))], s)
@[go_sem] theorem t8_4 : rc D b c8_4 ρ s = R8_4 b s := zr (by kernel_rfl)
@[go_sem] def R8_5 (_base : Nat) (s : St) (v0 v1 v6 : V) : OR :=
 obind (rf D f_steadfastlaw10_table [(.int .i64 12)] s) fun x0 =>
 obind (rf D f_steadfastlaw10_dir [] x0.2) fun x1 =>
 obind (rf D f_objects_Of [v6, (.int .i64 10), x0.1, x1.1] x1.2) fun x2 =>
 obind (extv 0 x2.1) fun x3 =>
 obind (extv 1 x2.1) fun _x4 =>
 some (.normal, [(0, v0), (1, v1), (8, x3)], x2.2)
@[go_sem] theorem t8_5 : rc D b c8_5 ρ s = R8_5 b s (get ρ 0) (get ρ 1) (get ρ 6) := zr (by kernel_rfl)
@[go_sem] def R8_6 (_base : Nat) (s : St) (v0 v1 v8 : V) : OR :=
 obind (eqv false 1 v8 .nilp) fun x0 =>
 some (.normal, [(0, v0), (1, v1), (8, v8), (44, x0)], s)
@[go_sem] theorem t8_6 : rc D b c8_6 ρ s = R8_6 b s (get ρ 0) (get ρ 1) (get ρ 8) := zr (by kernel_rfl)
@[go_sem] def R8_7 (_base : Nat) (s : St) : OR :=
 some (.normal, [(4, (.bool false))], s)
@[go_sem] theorem t8_7 : rc D b c8_7 ρ s = R8_7 b s := zr (by kernel_rfl)
@[go_sem] def R8_8 (_base : Nat) (s : St) (v0 v1 v8 : V) : OR :=
 some (.normal, [(0, v0), (1, v1), (8, v8), (10, (.int .i64 0))], s)
@[go_sem] theorem t8_8 : rc D b c8_8 ρ s = R8_8 b s (get ρ 0) (get ρ 1) (get ρ 8) := zr (by kernel_rfl)
@[go_sem] def R8_9 (_base : Nat) (s : St) (v0 v1 v8 v10 : V) : OR :=
 obind (V.slen false v0) fun x0 =>
 obind (vbin .lss v10 (.int .i64 x0)) fun x1 =>
 oguard x1 true (
   obind (vbin .lss v10 (.int .i64 60)) fun x2 =>
   some (.normal, [(0, v0), (1, v1), (8, v8), (10, v10), (52, x2)], s)) (
   some (.normal, [(0, v0), (1, v1), (8, v8), (10, v10), (52, (.bool false))], s)) (
   none)
@[go_sem] theorem t8_9 : rc D b c8_9 ρ s = R8_9 b s (get ρ 0) (get ρ 1) (get ρ 8) (get ρ 10) := zr (by kernel_rfl)
@[go_sem] def R8_10 (base : Nat) (s : St) (v0 v1 v8 v10 : V) : OR :=
 obind (sadv 54 v0 v10) fun x0 =>
 obind (ldv s 54 x0) fun x1 =>
 let x2 : V := .ptr (St.fresh s false) [] 54; let s2 : St := St.new s false (.agg 54 [(.int .i64 0), (.int .i64 0), (.int .i64 0), (.int .u64 0)])
 obind (stv base s2 54 x1 x2) fun s3 =>
 some (.normal, [(0, v0), (1, v1), (8, v8), (10, v10), (11, x2)], s3)
@[go_sem] theorem t8_10 : rc D b c8_10 ρ s = R8_10 b s (get ρ 0) (get ρ 1) (get ρ 8) (get ρ 10) := zr (by kernel_rfl)
@[go_sem] def R8_11 (_base : Nat) (s : St) (v0 v1 v8 v10 v11 : V) : OR :=
 obind (vbin .eql v10 (.int .i64 20)) fun x0 =>
 some (.normal, [(0, v0), (1, v1), (8, v8), (10, v10), (11, v11), (60, x0)], s)
@[go_sem] theorem t8_11 : rc D b c8_11 ρ s = R8_11 b s (get ρ 0) (get ρ 1) (get ρ 8) (get ρ 10) (get ρ 11) := zr (by kernel_rfl)
@[go_sem] def R8_12 (_base : Nat) (s : St) (v0 v1 v8 v10 v11 : V) : OR :=
 obind (rf D f_objects_Store_Mark [v8] s) fun x0 =>
 some (.normal, [(0, v0), (1, v1), (8, v8), (10, v10), (11, v11)], x0.2)
@[go_sem] theorem t8_12 : rc D b c8_12 ρ s = R8_12 b s (get ρ 0) (get ρ 1) (get ρ 8) (get ρ 10) (get ρ 11) := zr (by kernel_rfl)
@[go_sem] def R8_13 (_base : Nat) (s : St) (v0 v1 v8 v10 v11 : V) : OR :=
 obind (fadv 54 0 10 v11) fun x0 =>
 obind (ldv s 10 x0) fun x1 =>
 obind (rf D f_steadfastlaw10_kind [x1, (.int .i64 3)] s) fun x2 =>
 some (.normal, [(0, v0), (1, v1), (8, v8), (10, v10), (11, v11), (65, x2.1)], x2.2)
@[go_sem] theorem t8_13 : rc D b c8_13 ρ s = R8_13 b s (get ρ 0) (get ρ 1) (get ρ 8) (get ρ 10) (get ρ 11) := zr (by kernel_rfl)
@[go_sem] def R8_14 (_base : Nat) (s : St) (v0 v1 v8 v10 v11 v65 : V) : OR :=
 obind (vbin .eql v65 (.int .i64 0)) fun x0 =>
 some (.normal, [(0, v0), (1, v1), (8, v8), (10, v10), (11, v11), (65, v65), (66, x0)], s)
@[go_sem] theorem t8_14 : rc D b c8_14 ρ s = R8_14 b s (get ρ 0) (get ρ 1) (get ρ 8) (get ρ 10) (get ρ 11) (get ρ 65) := zr (by kernel_rfl)
@[go_sem] def R8_15 (base : Nat) (s : St) (v0 v1 v8 v10 v11 : V) : OR :=
 obind (fadv 54 1 10 v11) fun x0 =>
 obind (ldv s 10 x0) fun x1 =>
 obind (pcallw D (pcut base [x1, (.int .i64 20)]) base f_steadfastlaw10_kind [x1, (.int .i64 20)] s) fun x2 =>
 obind (fadv 54 2 10 v11) fun x3 =>
 obind (ldv s 10 x3) fun x4 =>
 obind (pcallw D (pcut base [x4, (.int .i64 8)]) base f_steadfastlaw10_kind [x4, (.int .i64 8)] s) fun x5 =>
 obind (fadv 54 3 18 v11) fun x6 =>
 obind (ldv s 18 x6) fun x7 =>
 obind (rf D f_objects_Store_Set [v8, x2, x5, x7] s) fun x8 =>
 some (.normal, [(0, v0), (1, v1), (8, v8), (10, v10)], x8.2)
@[go_sem] theorem t8_15 : rc D b c8_15 ρ s = R8_15 b s (get ρ 0) (get ρ 1) (get ρ 8) (get ρ 10) (get ρ 11) := zd (by kernel_rfl)
@[go_sem] def R8_16 (_base : Nat) (s : St) (v0 v1 v8 v10 v11 v65 : V) : OR :=
 obind (vbin .eql v65 (.int .i64 1)) fun x0 =>
 some (.normal, [(0, v0), (1, v1), (8, v8), (10, v10), (11, v11), (65, v65), (78, x0)], s)
@[go_sem] theorem t8_16 : rc D b c8_16 ρ s = R8_16 b s (get ρ 0) (get ρ 1) (get ρ 8) (get ρ 10) (get ρ 11) (get ρ 65) := zr (by kernel_rfl)
@[go_sem] def R8_17 (_base : Nat) (s : St) (v0 v1 v8 v10 v11 : V) : OR :=
 obind (fadv 54 2 10 v11) fun x0 =>
 obind (ldv s 10 x0) fun x1 =>
 obind (rf D f_steadfastlaw10_kind [x1, (.int .i64 2)] s) fun x2 =>
 obind (vbin .add (.int .i64 1) x2.1) fun x3 =>
 obind (rf D f_objects_Store_Make [v8, x3] x2.2) fun x4 =>
 some (.normal, [(0, v0), (1, v1), (8, v8), (10, v10)], x4.2)
@[go_sem] theorem t8_17 : rc D b c8_17 ρ s = R8_17 b s (get ρ 0) (get ρ 1) (get ρ 8) (get ρ 10) (get ρ 11) := zr (by kernel_rfl)
@[go_sem] def R8_18 (_base : Nat) (s : St) (v0 v1 v8 v10 v11 v65 : V) : OR :=
 obind (vbin .eql v65 (.int .i64 2)) fun x0 =>
 some (.normal, [(0, v0), (1, v1), (8, v8), (10, v10), (11, v11), (86, x0)], s)
@[go_sem] theorem t8_18 : rc D b c8_18 ρ s = R8_18 b s (get ρ 0) (get ρ 1) (get ρ 8) (get ρ 10) (get ρ 11) (get ρ 65) := zr (by kernel_rfl)
@[go_sem] def R8_19 (_base : Nat) (s : St) (v0 v1 v8 v10 v11 : V) : OR :=
 obind (fadv 54 1 10 v11) fun x0 =>
 obind (ldv s 10 x0) fun x1 =>
 obind (rf D f_steadfastlaw10_kind [x1, (.int .i64 20)] s) fun x2 =>
 obind (rf D f_objects_Store_End [v8, x2.1] x2.2) fun x3 =>
 some (.normal, [(0, v0), (1, v1), (8, v8), (10, v10)], x3.2)
@[go_sem] theorem t8_19 : rc D b c8_19 ρ s = R8_19 b s (get ρ 0) (get ρ 1) (get ρ 8) (get ρ 10) (get ρ 11) := zr (by kernel_rfl)
@[go_sem] def R8_20 (_base : Nat) (s : St) (v0 v1 v8 v10 : V) : OR :=
 obind (vbin .add v10 (.int .i64 1)) fun x0 =>
 some (.normal, [(0, v0), (1, v1), (8, v8), (10, x0)], s)
@[go_sem] theorem t8_20 : rc D b c8_20 ρ s = R8_20 b s (get ρ 0) (get ρ 1) (get ρ 8) (get ρ 10) := zr (by kernel_rfl)
@[go_sem] def R8_21 (_base : Nat) (s : St) (v1 v8 : V) : OR :=
 obind (rf D f_objects_Store_Mark [v8] s) fun x0 =>
 some (.normal, [(1, v1), (8, v8)], x0.2)
@[go_sem] theorem t8_21 : rc D b c8_21 ρ s = R8_21 b s (get ρ 1) (get ρ 8) := zr (by kernel_rfl)
@[go_sem] def R8_22 (base : Nat) (s : St) (v1 v8 : V) : OR :=
 obind (rf D f_steadfastlaw10_dir [] s) fun x0 =>
 let x1 : V := .ptr (St.fresh x0.2 false) [] 50; let s1 : St := St.new x0.2 false (.agg 50 (List.replicate 8 (.int .i64 0)))
 obind (stv base s1 50 x0.1 x1) fun s2 =>
 some (.normal, [(1, v1), (8, v8), (12, x1)], s2)
@[go_sem] theorem t8_22 : rc D b c8_22 ρ s = R8_22 b s (get ρ 1) (get ρ 8) := zr (by kernel_rfl)
@[go_sem] def R8_23 (_base : Nat) (s : St) (v1 v8 v12 : V) : OR :=
 some (.normal, [(1, v1), (8, v8), (12, v12)], s)
@[go_sem] theorem t8_23 : rc D b c8_23 ρ s = R8_23 b s (get ρ 1) (get ρ 8) (get ρ 12) := zr (by kernel_rfl)
@[go_sem] def R8_24 (_base : Nat) (s : St) (v1 v8 v12 : V) : OR :=
 some (.normal, [(8, v8), (12, v12), (96, v1)], s)
@[go_sem] theorem t8_24 : rc D b c8_24 ρ s = R8_24 b s (get ρ 1) (get ρ 8) (get ρ 12) := zr (by kernel_rfl)
@[go_sem] def R8_25 (_base : Nat) (s : St) (v8 v12 : V) : OR :=
 some (.normal, [(8, v8), (12, v12), (14, (.int .i64 0))], s)
@[go_sem] theorem t8_25 : rc D b c8_25 ρ s = R8_25 b s (get ρ 8) (get ρ 12) := zr (by kernel_rfl)
@[go_sem] def R8_26 (_base : Nat) (s : St) (v8 v12 v14 : V) : OR :=
 obind (vbin .lss v14 (.int .i64 8)) fun x0 =>
 some (.normal, [(8, v8), (12, v12), (14, v14), (98, x0)], s)
@[go_sem] theorem t8_26 : rc D b c8_26 ρ s = R8_26 b s (get ρ 8) (get ρ 12) (get ρ 14) := zr (by kernel_rfl)
@[go_sem] def R8_27 (_base : Nat) (s : St) (v8 v12 v14 : V) : OR :=
 obind (rf D f_objects_Store_Take [v8] s) fun x0 =>
 obind (extv 0 x0.1) fun x1 =>
 obind (extv 1 x0.1) fun x2 =>
 some (.normal, [(8, v8), (12, v12), (14, v14), (15, x1), (16, x2)], x0.2)
@[go_sem] theorem t8_27 : rc D b c8_27 ρ s = R8_27 b s (get ρ 8) (get ρ 12) (get ρ 14) := zr (by kernel_rfl)
@[go_sem] def R8_28 (_base : Nat) (s : St) (v8 v12 v14 v15 v16 : V) : OR :=
 obind (vbin .neq v16 (.int .i64 0)) fun x0 =>
 some (.normal, [(8, v8), (12, v12), (14, v14), (15, v15), (107, x0)], s)
@[go_sem] theorem t8_28 : rc D b c8_28 ρ s = R8_28 b s (get ρ 8) (get ρ 12) (get ρ 14) (get ρ 15) (get ρ 16) := zr (by kernel_rfl)
@[go_sem] def R8_29 (_base : Nat) (s : St) : OR :=
 some (.normal, [(4, (.bool true))], s)
@[go_sem] theorem t8_29 : rc D b c8_29 ρ s = R8_29 b s := zr (by kernel_rfl)
@[go_sem] def R8_30 (base : Nat) (s : St) (v8 v12 v14 v15 : V) : OR :=
 obind (iadv 50 8 10 v12 v14) fun x0 =>
 obind (stv base s 10 v15 x0) fun s1 =>
 some (.normal, [(8, v8), (12, v12), (14, v14)], s1)
@[go_sem] theorem t8_30 : rc D b c8_30 ρ s = R8_30 b s (get ρ 8) (get ρ 12) (get ρ 14) (get ρ 15) := zr (by kernel_rfl)
@[go_sem] def R8_31 (_base : Nat) (s : St) (v8 v12 v14 : V) : OR :=
 obind (vbin .add v14 (.int .i64 1)) fun x0 =>
 some (.normal, [(8, v8), (12, v12), (14, x0)], s)
@[go_sem] theorem t8_31 : rc D b c8_31 ρ s = R8_31 b s (get ρ 8) (get ρ 12) (get ρ 14) := zr (by kernel_rfl)
@[go_sem] def R8_32 (_base : Nat) (s : St) (v8 v12 : V) : OR :=
 obind (ldv s 50 v12) fun x0 =>
 obind (rf D f_objects_Store_Commit [v8, x0] s) fun x1 =>
 some (.normal, [(8, v8), (12, v12), (13, x1.1)], x1.2)
@[go_sem] theorem t8_32 : rc D b c8_32 ρ s = R8_32 b s (get ρ 8) (get ρ 12) := zr (by kernel_rfl)
@[go_sem] def R8_33 (_base : Nat) (s : St) (v8 v12 : V) : OR :=
 obind (rf D f_objects_Store_Take [v8] s) fun x0 =>
 some (.normal, [(8, v8), (12, v12)], x0.2)
@[go_sem] theorem t8_33 : rc D b c8_33 ρ s = R8_33 b s (get ρ 8) (get ρ 12) := zr (by kernel_rfl)
@[go_sem] def R8_34 (_base : Nat) (s : St) (v8 v12 : V) : OR :=
 obind (rf D f_objects_Store_Abort [v8] s) fun x0 =>
 some (.normal, [(8, v8), (12, v12), (13, x0.1)], x0.2)
@[go_sem] theorem t8_34 : rc D b c8_34 ρ s = R8_34 b s (get ρ 8) (get ρ 12) := zr (by kernel_rfl)
@[go_sem] def R8_35 (base : Nat) (s : St) (v8 v12 v13 : V) : OR :=
 obind (rf D f_objects_Store_Base [v8] s) fun x0 =>
 obind (extv 0 x0.1) fun x1 =>
 obind (extv 1 x0.1) fun x2 =>
 let x3 : V := .ptr (St.fresh x0.2 false) [] 48; let s3 : St := St.new x0.2 false (.agg 48 (List.replicate 49 (.agg 42 [(.int .i64 0), (.int .i64 0), (.int .i64 0)])))
 let x4 : V := .ptr (St.fresh s3 false) [] 50; let s4 : St := St.new s3 false (.agg 50 (List.replicate 8 (.int .i64 0)))
 obind (stv base s4 48 x1 x3) fun s5 =>
 obind (stv base s5 50 x2 x4) fun s6 =>
 some (.normal, [(8, v8), (12, v12), (13, v13), (17, x3), (18, x4)], s6)
@[go_sem] theorem t8_35 : rc D b c8_35 ρ s = R8_35 b s (get ρ 8) (get ρ 12) (get ρ 13) := zr (by kernel_rfl)
@[go_sem] def R8_36 (base : Nat) (s : St) (v8 v12 v13 v17 v18 : V) : OR :=
 obind (rf D f_objects_Store_Table [v8] s) fun x0 =>
 let x1 : V := .ptr (St.fresh x0.2 false) [] 48; let s1 : St := St.new x0.2 false (.agg 48 (List.replicate 49 (.agg 42 [(.int .i64 0), (.int .i64 0), (.int .i64 0)])))
 obind (stv base s1 48 x0.1 x1) fun s2 =>
 some (.normal, [(8, v8), (12, v12), (13, v13), (17, v17), (18, v18), (19, x1)], s2)
@[go_sem] theorem t8_36 : rc D b c8_36 ρ s = R8_36 b s (get ρ 8) (get ρ 12) (get ρ 13) (get ρ 17) (get ρ 18) := zr (by kernel_rfl)
@[go_sem] def R8_37 (_base : Nat) (s : St) (v8 v12 v13 v17 v18 v19 : V) : OR :=
 obind (mkslv false 20 0 (.bool false) s (.int .i64 100) (.int .i64 100)) fun x0 =>
 some (.normal, [(8, v8), (12, v12), (13, v13), (17, v17), (18, v18), (19, v19), (20, x0.1)], x0.2)
@[go_sem] theorem t8_37 : rc D b c8_37 ρ s = R8_37 b s (get ρ 8) (get ρ 12) (get ρ 13) (get ρ 17) (get ρ 18) (get ρ 19) := zr (by kernel_rfl)
@[go_sem] def R8_38 (_base : Nat) (s : St) (v8 v12 v13 v17 v18 v19 v20 : V) : OR :=
 some (.normal, [(8, v8), (12, v12), (13, v13), (17, v17), (18, v18), (19, v19), (20, v20), (21, (.int .i64 0))], s)
@[go_sem] theorem t8_38 : rc D b c8_38 ρ s = R8_38 b s (get ρ 8) (get ρ 12) (get ρ 13) (get ρ 17) (get ρ 18) (get ρ 19) (get ρ 20) := zr (by kernel_rfl)
@[go_sem] def R8_39 (_base : Nat) (s : St) (v8 v12 v13 v17 v18 v19 v20 v21 : V) : OR :=
 obind (vbin .lss v21 (.int .i64 49)) fun x0 =>
 some (.normal, [(8, v8), (12, v12), (13, v13), (17, v17), (18, v18), (19, v19), (20, v20), (21, v21), (127, x0)], s)
@[go_sem] theorem t8_39 : rc D b c8_39 ρ s = R8_39 b s (get ρ 8) (get ρ 12) (get ρ 13) (get ρ 17) (get ρ 18) (get ρ 19) (get ρ 20) (get ρ 21) := zr (by kernel_rfl)
@[go_sem] def R8_40 (_base : Nat) (s : St) (v8 v12 v13 v17 v18 v19 v20 v21 : V) : OR :=
 obind (iadv 48 49 42 v17 v21) fun x0 =>
 obind (fadv 42 0 10 x0) fun x1 =>
 obind (ldv s 10 x1) fun x2 =>
 obind (vbin .neq x2 (.int .i64 0)) fun x3 =>
 some (.normal, [(8, v8), (12, v12), (13, v13), (17, v17), (18, v18), (19, v19), (20, v20), (21, v21), (134, x3)], s)
@[go_sem] theorem t8_40 : rc D b c8_40 ρ s = R8_40 b s (get ρ 8) (get ρ 12) (get ρ 13) (get ρ 17) (get ρ 18) (get ρ 19) (get ρ 20) (get ρ 21) := zr (by kernel_rfl)
@[go_sem] def R8_41 (base : Nat) (s : St) (v8 v12 v13 v17 v18 v19 v20 v21 : V) : OR :=
 obind (iadv 48 49 42 v17 v21) fun x0 =>
 obind (fadv 42 2 10 x0) fun x1 =>
 obind (ldv s 10 x1) fun x2 =>
 obind (sadv 0 v20 x2) fun x3 =>
 obind (stv base s 0 (.bool true) x3) fun s4 =>
 some (.normal, [(8, v8), (12, v12), (13, v13), (17, v17), (18, v18), (19, v19), (20, v20), (21, v21)], s4)
@[go_sem] theorem t8_41 : rc D b c8_41 ρ s = R8_41 b s (get ρ 8) (get ρ 12) (get ρ 13) (get ρ 17) (get ρ 18) (get ρ 19) (get ρ 20) (get ρ 21) := zr (by kernel_rfl)
@[go_sem] def R8_42 (_base : Nat) (s : St) (v8 v12 v13 v17 v18 v19 v20 v21 : V) : OR :=
 obind (iadv 48 49 42 v19 v21) fun x0 =>
 obind (fadv 42 0 10 x0) fun x1 =>
 obind (ldv s 10 x1) fun x2 =>
 obind (vbin .neq x2 (.int .i64 0)) fun x3 =>
 some (.normal, [(8, v8), (12, v12), (13, v13), (17, v17), (18, v18), (19, v19), (20, v20), (21, v21), (145, x3)], s)
@[go_sem] theorem t8_42 : rc D b c8_42 ρ s = R8_42 b s (get ρ 8) (get ρ 12) (get ρ 13) (get ρ 17) (get ρ 18) (get ρ 19) (get ρ 20) (get ρ 21) := zr (by kernel_rfl)
@[go_sem] def R8_43 (base : Nat) (s : St) (v8 v12 v13 v17 v18 v19 v20 v21 : V) : OR :=
 obind (iadv 48 49 42 v19 v21) fun x0 =>
 obind (fadv 42 2 10 x0) fun x1 =>
 obind (ldv s 10 x1) fun x2 =>
 obind (sadv 0 v20 x2) fun x3 =>
 obind (stv base s 0 (.bool true) x3) fun s4 =>
 some (.normal, [(8, v8), (12, v12), (13, v13), (17, v17), (18, v18), (19, v19), (20, v20), (21, v21)], s4)
@[go_sem] theorem t8_43 : rc D b c8_43 ρ s = R8_43 b s (get ρ 8) (get ρ 12) (get ρ 13) (get ρ 17) (get ρ 18) (get ρ 19) (get ρ 20) (get ρ 21) := zr (by kernel_rfl)
@[go_sem] def R8_44 (_base : Nat) (s : St) (v8 v12 v13 v17 v18 v19 v20 v21 : V) : OR :=
 obind (vbin .add v21 (.int .i64 1)) fun x0 =>
 some (.normal, [(8, v8), (12, v12), (13, v13), (17, v17), (18, v18), (19, v19), (20, v20), (21, x0)], s)
@[go_sem] theorem t8_44 : rc D b c8_44 ρ s = R8_44 b s (get ρ 8) (get ρ 12) (get ρ 13) (get ρ 17) (get ρ 18) (get ρ 19) (get ρ 20) (get ρ 21) := zr (by kernel_rfl)
@[go_sem] def R8_45 (_base : Nat) (s : St) (v8 v12 v13 v18 v20 : V) : OR :=
 some (.normal, [(8, v8), (12, v12), (13, v13), (18, v18), (20, v20), (22, (.int .i64 0))], s)
@[go_sem] theorem t8_45 : rc D b c8_45 ρ s = R8_45 b s (get ρ 8) (get ρ 12) (get ρ 13) (get ρ 18) (get ρ 20) := zr (by kernel_rfl)
@[go_sem] def R8_46 (_base : Nat) (s : St) (v8 v12 v13 v18 v20 v22 : V) : OR :=
 obind (vbin .lss v22 (.int .i64 8)) fun x0 =>
 some (.normal, [(8, v8), (12, v12), (13, v13), (18, v18), (20, v20), (22, v22), (153, x0)], s)
@[go_sem] theorem t8_46 : rc D b c8_46 ρ s = R8_46 b s (get ρ 8) (get ρ 12) (get ρ 13) (get ρ 18) (get ρ 20) (get ρ 22) := zr (by kernel_rfl)
@[go_sem] def R8_47 (base : Nat) (s : St) (v8 v12 v13 v18 v20 v22 : V) : OR :=
 obind (iadv 50 8 10 v18 v22) fun x0 =>
 obind (ldv s 10 x0) fun x1 =>
 obind (sadv 0 v20 x1) fun x2 =>
 obind (stv base s 0 (.bool true) x2) fun s3 =>
 some (.normal, [(8, v8), (12, v12), (13, v13), (18, v18), (20, v20), (22, v22)], s3)
@[go_sem] theorem t8_47 : rc D b c8_47 ρ s = R8_47 b s (get ρ 8) (get ρ 12) (get ρ 13) (get ρ 18) (get ρ 20) (get ρ 22) := zr (by kernel_rfl)
@[go_sem] def R8_48 (_base : Nat) (s : St) (v8 v12 v13 v18 v20 v22 : V) : OR :=
 obind (vbin .add v22 (.int .i64 1)) fun x0 =>
 some (.normal, [(8, v8), (12, v12), (13, v13), (18, v18), (20, v20), (22, x0)], s)
@[go_sem] theorem t8_48 : rc D b c8_48 ρ s = R8_48 b s (get ρ 8) (get ρ 12) (get ρ 13) (get ρ 18) (get ρ 20) (get ρ 22) := zr (by kernel_rfl)
@[go_sem] def R8_49 (_base : Nat) (s : St) (v8 v12 v13 v18 v20 : V) : OR :=
 some (.normal, [(8, v8), (12, v12), (13, v13), (18, v18), (20, v20), (23, (.int .i64 0))], s)
@[go_sem] theorem t8_49 : rc D b c8_49 ρ s = R8_49 b s (get ρ 8) (get ρ 12) (get ρ 13) (get ρ 18) (get ρ 20) := zr (by kernel_rfl)
@[go_sem] def R8_50 (_base : Nat) (s : St) (v8 v12 v13 v18 v20 v23 : V) : OR :=
 some (.normal, [(8, v8), (12, v12), (13, v13), (18, v18), (20, v20), (23, v23), (24, (.int .i64 10))], s)
@[go_sem] theorem t8_50 : rc D b c8_50 ρ s = R8_50 b s (get ρ 8) (get ρ 12) (get ρ 13) (get ρ 18) (get ρ 20) (get ρ 23) := zr (by kernel_rfl)
@[go_sem] def R8_51 (_base : Nat) (s : St) (v8 v12 v13 v18 v20 v23 v24 : V) : OR :=
 obind (vbin .lss v24 (.int .i64 100)) fun x0 =>
 some (.normal, [(8, v8), (12, v12), (13, v13), (18, v18), (20, v20), (23, v23), (24, v24), (162, x0)], s)
@[go_sem] theorem t8_51 : rc D b c8_51 ρ s = R8_51 b s (get ρ 8) (get ρ 12) (get ρ 13) (get ρ 18) (get ρ 20) (get ρ 23) (get ρ 24) := zr (by kernel_rfl)
@[go_sem] def R8_52 (_base : Nat) (s : St) (v8 v12 v13 v18 v20 v23 v24 : V) : OR :=
 obind (sadv 0 v20 v24) fun x0 =>
 obind (ldv s 0 x0) fun x1 =>
 obind (vun .not x1) fun x2 =>
 some (.normal, [(8, v8), (12, v12), (13, v13), (18, v18), (20, v20), (23, v23), (24, v24), (169, x2)], s)
@[go_sem] theorem t8_52 : rc D b c8_52 ρ s = R8_52 b s (get ρ 8) (get ρ 12) (get ρ 13) (get ρ 18) (get ρ 20) (get ρ 23) (get ρ 24) := zr (by kernel_rfl)
@[go_sem] def R8_53 (_base : Nat) (s : St) (v8 v12 v13 v18 v20 v23 v24 : V) : OR :=
 obind (vbin .add v23 (.int .i64 1)) fun x0 =>
 some (.normal, [(8, v8), (12, v12), (13, v13), (18, v18), (20, v20), (23, x0), (24, v24)], s)
@[go_sem] theorem t8_53 : rc D b c8_53 ρ s = R8_53 b s (get ρ 8) (get ρ 12) (get ρ 13) (get ρ 18) (get ρ 20) (get ρ 23) (get ρ 24) := zr (by kernel_rfl)
@[go_sem] def R8_54 (_base : Nat) (s : St) (v8 v12 v13 v18 v20 v23 v24 : V) : OR :=
 obind (vbin .add v24 (.int .i64 1)) fun x0 =>
 some (.normal, [(8, v8), (12, v12), (13, v13), (18, v18), (20, v20), (23, v23), (24, x0)], s)
@[go_sem] theorem t8_54 : rc D b c8_54 ρ s = R8_54 b s (get ρ 8) (get ρ 12) (get ρ 13) (get ρ 18) (get ρ 20) (get ρ 23) (get ρ 24) := zr (by kernel_rfl)
@[go_sem] def R8_55 (_base : Nat) (s : St) (v8 v12 v13 v18 v23 : V) : OR :=
 obind (vbin .eql v13 (.int .i64 0)) fun x0 =>
 oguard x0 true (
   obind (ldv s 50 v18) fun x1 =>
   obind (ldv s 50 v12) fun x2 =>
   obind (eqv false 50 x1 x2) fun x3 =>
   oguard x3 true (
     obind (rf D f_objects_Store_Left [v8] s) fun x4 =>
     obind (vbin .eql x4.1 v23) fun x5 =>
     some (.normal, [(4, x5)], x4.2)) (
     some (.normal, [(4, (.bool false))], s)) (
     none)) (
   some (.normal, [(4, (.bool false))], s)) (
   none)
@[go_sem] theorem t8_55 : rc D b c8_55 ρ s = R8_55 b s (get ρ 8) (get ρ 12) (get ρ 13) (get ρ 18) (get ρ 23) := zr (by kernel_rfl)
@[go_sem] def R10_0 (_base : Nat) (s : St) (v0 : V) : OR :=
 some (.normal, [(0, v0)], s)
@[go_sem] theorem t10_0 : rc D b c10_0 ρ s = R10_0 b s (get ρ 0) := zr (by kernel_rfl)
@[go_sem] def R10_1 (_base : Nat) (s : St) (v0 : V) : OR :=
 obind (vbin .lss v0 (.int .i64 64)) fun x0 =>
 oguard x0 false (
   obind (vbin .gtr v0 (.int .i64 1024)) fun x1 =>
   some (.normal, [(0, v0), (9, x1)], s)) (
   some (.normal, [(0, v0), (9, (.bool true))], s)) (
   none)
@[go_sem] theorem t10_1 : rc D b c10_1 ρ s = R10_1 b s (get ρ 0) := zr (by kernel_rfl)
@[go_sem] def R10_2 (_base : Nat) (s : St) : OR :=
 some (.normal, [(2, .nilp), (3, (.int .i64 1))], s)
@[go_sem] theorem t10_2 : rc D b c10_2 ρ s = R10_2 b s := zr (by kernel_rfl)
@[go_sem] def R10_3 (_base : Nat) (s : St) (v0 : V) : OR :=
 obind (mkslv true 57 55 (.agg 55 [(.agg 24 (List.replicate 8 (.int .u64 0))), (.agg 24 (List.replicate 8 (.int .u64 0))), .nils, (.agg 50 (List.replicate 8 (.int .i64 0)))]) s v0 v0) fun x0 =>
 obind (setParts [.nils, (.bool false), (.bool false), (.int .i64 0), (.int .i64 0)] [(0, x0.1)]) fun x1 =>
 if V.ok (.agg 59 x1) && mayNew true (.agg 59 x1) then let x2 : V := .ptr (St.fresh x0.2 true) [] (V.tag (.agg 59 x1)); let s2 : St := St.new x0.2 true (.agg 59 x1)
 some (.normal, [(2, x2), (3, (.int .i64 0))], s2)
 else none
@[go_sem] theorem t10_3 : rc D b c10_3 ρ s = R10_3 b s (get ρ 0) := zr (by kernel_rfl)
@[go_sem] def R11_0 (_base : Nat) (s : St) (v0 : V) : OR :=
 some (.normal, [(0, v0)], s)
@[go_sem] theorem t11_0 : rc D b c11_0 ρ s = R11_0 b s (get ρ 0) := zr (by kernel_rfl)
@[go_sem] def R11_1 (_base : Nat) (s : St) (v0 : V) : OR :=
 obind (vbin .lss v0 (.int .i64 64)) fun x0 =>
 oguard x0 false (
   obind (vbin .gtr v0 (.int .i64 1024)) fun x1 =>
   some (.normal, [(0, v0), (9, x1)], s)) (
   some (.normal, [(0, v0), (9, (.bool true))], s)) (
   none)
@[go_sem] theorem t11_1 : rc D b c11_1 ρ s = R11_1 b s (get ρ 0) := zr (by kernel_rfl)
@[go_sem] def R11_2 (_base : Nat) (s : St) : OR :=
 some (.normal, [(2, .nilp), (3, (.int .i64 1))], s)
@[go_sem] theorem t11_2 : rc D b c11_2 ρ s = R11_2 b s := zr (by kernel_rfl)
@[go_sem] def R11_3 (_base : Nat) (s : St) (v0 : V) : OR :=
 obind (mkslv false 58 24 (.agg 24 (List.replicate 8 (.int .u64 0))) s v0 v0) fun x0 =>
 obind (rf D f_steadfastref03_Of [x0.1] x0.2) fun x1 =>
 obind (extv 0 x1.1) fun x2 =>
 obind (extv 1 x1.1) fun x3 =>
 some (.normal, [(2, x2), (3, x3)], x1.2)
@[go_sem] theorem t11_3 : rc D b c11_3 ρ s = R11_3 b s (get ρ 0) := zr (by kernel_rfl)
@[go_sem] def R12_0 (_base : Nat) (s : St) (v0 v1 v2 v3 : V) : OR :=
 if V.ok v2 && mayNew false v2 then let x0 : V := .ptr (St.fresh s false) [] (V.tag v2); let s0 : St := St.new s false v2
 if V.ok v3 && mayNew false v3 then let x1 : V := .ptr (St.fresh s0 false) [] (V.tag v3); let s1 : St := St.new s0 false v3
 some (.normal, [(0, v0), (1, v1), (6, x0), (7, x1)], s1)
 else none
 else none
@[go_sem] theorem t12_0 : rc D b c12_0 ρ s = R12_0 b s (get ρ 0) (get ρ 1) (get ρ 2) (get ρ 3) := zr (by kernel_rfl)
@[go_sem] def R12_1 (_base : Nat) (s : St) (v0 v1 v6 v7 : V) : OR :=
 obind (rf D f_nvm_Memory_Lines [v0] s) fun x0 =>
 obind (rf D f_frames_New [v1, x0.1] x0.2) fun x1 =>
 obind (extv 0 x1.1) fun x2 =>
 obind (extv 1 x1.1) fun x3 =>
 some (.normal, [(0, v0), (6, v6), (7, v7), (10, x2), (11, x3)], x1.2)
@[go_sem] theorem t12_1 : rc D b c12_1 ρ s = R12_1 b s (get ρ 0) (get ρ 1) (get ρ 6) (get ρ 7) := zr (by kernel_rfl)
@[go_sem] def R12_2 (_base : Nat) (s : St) (v0 v6 v7 v10 v11 : V) : OR :=
 obind (vbin .neq v11 (.int .i64 0)) fun x0 =>
 some (.normal, [(0, v0), (6, v6), (7, v7), (10, v10), (11, v11), (25, x0)], s)
@[go_sem] theorem t12_2 : rc D b c12_2 ρ s = R12_2 b s (get ρ 0) (get ρ 6) (get ρ 7) (get ρ 10) (get ρ 11) := zr (by kernel_rfl)
@[go_sem] def R12_3 (_base : Nat) (s : St) (v11 : V) : OR :=
 some (.normal, [(8, .nilp), (9, v11)], s)
@[go_sem] theorem t12_3 : rc D b c12_3 ρ s = R12_3 b s (get ρ 11) := zr (by kernel_rfl)
@[go_sem] def R12_4 (_base : Nat) (s : St) (v0 v6 v7 v10 : V) : OR :=
 obind (ldv s 48 v6) fun x0 =>
 obind (ldv s 48 v6) fun x1 =>
 obind (ldv s 50 v7) fun x2 =>
 obind (setParts [.nilp, .nilp, (.agg 48 (List.replicate 49 (.agg 42 [(.int .i64 0), (.int .i64 0), (.int .i64 0)]))), (.agg 48 (List.replicate 49 (.agg 42 [(.int .i64 0), (.int .i64 0), (.int .i64 0)]))), (.agg 50 (List.replicate 8 (.int .i64 0))), (.agg 48 (List.replicate 49 (.agg 42 [(.int .i64 0), (.int .i64 0), (.int .i64 0)]))), (.bool false), (.agg 82 (List.replicate 1024 (.bool false)))] [(0, v0), (1, v10), (2, x0), (3, x1), (4, x2)]) fun x3 =>
 if V.ok (.agg 43 x3) && mayNew true (.agg 43 x3) then let x4 : V := .ptr (St.fresh s true) [] (V.tag (.agg 43 x3)); let s4 : St := St.new s true (.agg 43 x3)
 some (.normal, [(6, v6), (7, v7), (10, v10), (12, x4)], s4)
 else none
@[go_sem] theorem t12_4 : rc D b c12_4 ρ s = R12_4 b s (get ρ 0) (get ρ 6) (get ρ 7) (get ρ 10) := zr (by kernel_rfl)
@[go_sem] def R12_5 (_base : Nat) (s : St) (v6 v7 v10 v12 : V) : OR :=
 obind (ldv s 48 v6) fun x0 =>
 some (.normal, [(7, v7), (10, v10), (12, v12), (34, x0), (35, (.int .i64 0))], s)
@[go_sem] theorem t12_5 : rc D b c12_5 ρ s = R12_5 b s (get ρ 6) (get ρ 7) (get ρ 10) (get ρ 12) := zr (by kernel_rfl)
@[go_sem] def R12_6 (_base : Nat) (s : St) (v7 v10 v12 v34 v35 : V) : OR :=
 obind (vbin .lss v35 (.int .i64 49)) fun x0 =>
 some (.normal, [(7, v7), (10, v10), (12, v12), (34, v34), (35, v35), (36, x0)], s)
@[go_sem] theorem t12_6 : rc D b c12_6 ρ s = R12_6 b s (get ρ 7) (get ρ 10) (get ρ 12) (get ρ 34) (get ρ 35) := zr (by kernel_rfl)
@[go_sem] def R12_7 (base : Nat) (s : St) (v7 v10 v12 v34 v35 : V) : OR :=
 obind (idxv 48 49 v34 v35) fun x0 =>
 let x1 : V := .ptr (St.fresh s false) [] 42; let s1 : St := St.new s false (.agg 42 [(.int .i64 0), (.int .i64 0), (.int .i64 0)])
 obind (stv base s1 42 x0 x1) fun s2 =>
 some (.normal, [(7, v7), (10, v10), (12, v12), (14, x1), (34, v34), (35, v35)], s2)
@[go_sem] theorem t12_7 : rc D b c12_7 ρ s = R12_7 b s (get ρ 7) (get ρ 10) (get ρ 12) (get ρ 34) (get ρ 35) := zr (by kernel_rfl)
@[go_sem] def R12_8 (_base : Nat) (s : St) (v7 v10 v12 v14 v34 v35 : V) : OR :=
 obind (fadv 42 0 10 v14) fun x0 =>
 obind (ldv s 10 x0) fun x1 =>
 obind (vbin .neq x1 (.int .i64 0)) fun x2 =>
 oguard x2 true (
   obind (fadv 42 2 10 v14) fun x3 =>
   obind (ldv s 10 x3) fun x4 =>
   obind (rf D f_frames_Frames_Take [v10, x4] s) fun x5 =>
   obind (vbin .neq x5.1 (.int .i64 0)) fun x6 =>
   some (.normal, [(7, v7), (10, v10), (12, v12), (34, v34), (35, v35), (47, x6)], x5.2)) (
   some (.normal, [(7, v7), (10, v10), (12, v12), (34, v34), (35, v35), (47, (.bool false))], s)) (
   none)
@[go_sem] theorem t12_8 : rc D b c12_8 ρ s = R12_8 b s (get ρ 7) (get ρ 10) (get ρ 12) (get ρ 14) (get ρ 34) (get ρ 35) := zr (by kernel_rfl)
@[go_sem] def R12_9 (_base : Nat) (s : St) : OR :=
 some (.normal, [(8, .nilp), (9, (.int .i64 21))], s)
@[go_sem] theorem t12_9 : rc D b c12_9 ρ s = R12_9 b s := zr (by kernel_rfl)
@[go_sem] def R12_10 (_base : Nat) (s : St) (v7 v10 v12 v34 v35 : V) : OR :=
 obind (vbin .add v35 (.int .i64 1)) fun x0 =>
 some (.normal, [(7, v7), (10, v10), (12, v12), (34, v34), (35, x0)], s)
@[go_sem] theorem t12_10 : rc D b c12_10 ρ s = R12_10 b s (get ρ 7) (get ρ 10) (get ρ 12) (get ρ 34) (get ρ 35) := zr (by kernel_rfl)
@[go_sem] def R12_11 (_base : Nat) (s : St) (v7 v10 v12 : V) : OR :=
 obind (ldv s 50 v7) fun x0 =>
 some (.normal, [(10, v10), (12, v12), (49, x0), (50, (.int .i64 0))], s)
@[go_sem] theorem t12_11 : rc D b c12_11 ρ s = R12_11 b s (get ρ 7) (get ρ 10) (get ρ 12) := zr (by kernel_rfl)
@[go_sem] def R12_12 (_base : Nat) (s : St) (v10 v12 v49 v50 : V) : OR :=
 obind (vbin .lss v50 (.int .i64 8)) fun x0 =>
 some (.normal, [(10, v10), (12, v12), (49, v49), (50, v50), (51, x0)], s)
@[go_sem] theorem t12_12 : rc D b c12_12 ρ s = R12_12 b s (get ρ 10) (get ρ 12) (get ρ 49) (get ρ 50) := zr (by kernel_rfl)
@[go_sem] def R12_13 (_base : Nat) (s : St) (v10 v12 v49 v50 : V) : OR :=
 obind (idxv 50 8 v49 v50) fun x0 =>
 some (.normal, [(10, v10), (12, v12), (16, x0), (49, v49), (50, v50)], s)
@[go_sem] theorem t12_13 : rc D b c12_13 ρ s = R12_13 b s (get ρ 10) (get ρ 12) (get ρ 49) (get ρ 50) := zr (by kernel_rfl)
@[go_sem] def R12_14 (_base : Nat) (s : St) (v10 v12 v16 v49 v50 : V) : OR :=
 obind (rf D f_frames_Frames_Take [v10, v16] s) fun x0 =>
 obind (vbin .neq x0.1 (.int .i64 0)) fun x1 =>
 some (.normal, [(10, v10), (12, v12), (49, v49), (50, v50), (56, x1)], x0.2)
@[go_sem] theorem t12_14 : rc D b c12_14 ρ s = R12_14 b s (get ρ 10) (get ρ 12) (get ρ 16) (get ρ 49) (get ρ 50) := zr (by kernel_rfl)
@[go_sem] def R12_15 (_base : Nat) (s : St) : OR :=
 some (.normal, [(8, .nilp), (9, (.int .i64 21))], s)
@[go_sem] theorem t12_15 : rc D b c12_15 ρ s = R12_15 b s := zr (by kernel_rfl)
@[go_sem] def R12_16 (_base : Nat) (s : St) (v10 v12 v49 v50 : V) : OR :=
 obind (vbin .add v50 (.int .i64 1)) fun x0 =>
 some (.normal, [(10, v10), (12, v12), (49, v49), (50, x0)], s)
@[go_sem] theorem t12_16 : rc D b c12_16 ρ s = R12_16 b s (get ρ 10) (get ρ 12) (get ρ 49) (get ρ 50) := zr (by kernel_rfl)
@[go_sem] def R12_17 (_base : Nat) (s : St) (v12 : V) : OR :=
 obind (rf D f_objects_Store_share [v12] s) fun x0 =>
 some (.normal, [(12, v12)], x0.2)
@[go_sem] theorem t12_17 : rc D b c12_17 ρ s = R12_17 b s (get ρ 12) := zr (by kernel_rfl)
@[go_sem] def R12_18 (_base : Nat) (s : St) (v12 : V) : OR :=
 some (.normal, [(8, v12), (9, (.int .i64 0))], s)
@[go_sem] theorem t12_18 : rc D b c12_18 ρ s = R12_18 b s (get ρ 12) := zr (by kernel_rfl)
@[go_sem] def R13_0 (_base : Nat) (s : St) (v0 v1 v2 v3 : V) : OR :=
 if V.ok v2 && mayNew false v2 then let x0 : V := .ptr (St.fresh s false) [] (V.tag v2); let s0 : St := St.new s false v2
 if V.ok v3 && mayNew false v3 then let x1 : V := .ptr (St.fresh s0 false) [] (V.tag v3); let s1 : St := St.new s0 false v3
 some (.normal, [(0, v0), (1, v1), (6, x0), (7, x1)], s1)
 else none
 else none
@[go_sem] theorem t13_0 : rc D b c13_0 ρ s = R13_0 b s (get ρ 0) (get ρ 1) (get ρ 2) (get ρ 3) := zr (by kernel_rfl)
@[go_sem] def R13_1 (_base : Nat) (s : St) (v0 v1 v6 v7 : V) : OR :=
 obind (nilv v0) fun x0 =>
 obind (fadv 33 0 1 x0) fun x1 =>
 obind (ldv s 1 x1) fun x2 =>
 obind (V.slen false x2) fun x3 =>
 obind (rf D f_steadfastref04_New [v1, (.int .i64 x3)] s) fun x4 =>
 obind (extv 0 x4.1) fun x5 =>
 obind (extv 1 x4.1) fun x6 =>
 some (.normal, [(0, v0), (6, v6), (7, v7), (10, x5), (11, x6)], x4.2)
@[go_sem] theorem t13_1 : rc D b c13_1 ρ s = R13_1 b s (get ρ 0) (get ρ 1) (get ρ 6) (get ρ 7) := zr (by kernel_rfl)
@[go_sem] def R13_2 (_base : Nat) (s : St) (v0 v6 v7 v10 v11 : V) : OR :=
 obind (vbin .neq v11 (.int .i64 0)) fun x0 =>
 some (.normal, [(0, v0), (6, v6), (7, v7), (10, v10), (25, x0)], s)
@[go_sem] theorem t13_2 : rc D b c13_2 ρ s = R13_2 b s (get ρ 0) (get ρ 6) (get ρ 7) (get ρ 10) (get ρ 11) := zr (by kernel_rfl)
@[go_sem] def R13_3 (_base : Nat) (s : St) : OR :=
 some (.normal, [(8, .nilp), (9, (.int .i64 1))], s)
@[go_sem] theorem t13_3 : rc D b c13_3 ρ s = R13_3 b s := zr (by kernel_rfl)
@[go_sem] def R13_4 (base : Nat) (s : St) (v0 v6 v7 v10 : V) : OR :=
 obind (ldv s 48 v6) fun x0 =>
 obind (callwv D [x0] s v7 (.fn f_steadfastref10_lines [])) fun x1 =>
 obind (slarrv x1.2 50 8 10 none none none v7) fun x2 =>
 obind (vappend base false 38 10 x1.1 x2 x1.2) fun x3 =>
 some (.normal, [(0, v0), (6, v6), (7, v7), (10, v10), (12, x3.1)], x3.2)
@[go_sem] theorem t13_4 : rc D b c13_4 ρ s = R13_4 b s (get ρ 0) (get ρ 6) (get ρ 7) (get ρ 10) := zd (by kernel_rfl)
@[go_sem] def R13_5 (_base : Nat) (s : St) (v0 v6 v7 v10 v12 : V) : OR :=
 some (.normal, [(0, v0), (6, v6), (7, v7), (10, v10), (12, v12), (13, (.int .i64 0))], s)
@[go_sem] theorem t13_5 : rc D b c13_5 ρ s = R13_5 b s (get ρ 0) (get ρ 6) (get ρ 7) (get ρ 10) (get ρ 12) := zr (by kernel_rfl)
@[go_sem] def R13_6 (_base : Nat) (s : St) (v0 v6 v7 v10 v12 v13 : V) : OR :=
 obind (V.slen false v12) fun x0 =>
 obind (vbin .lss v13 (.int .i64 x0)) fun x1 =>
 some (.normal, [(0, v0), (6, v6), (7, v7), (10, v10), (12, v12), (13, v13), (33, x1)], s)
@[go_sem] theorem t13_6 : rc D b c13_6 ρ s = R13_6 b s (get ρ 0) (get ρ 6) (get ρ 7) (get ρ 10) (get ρ 12) (get ρ 13) := zr (by kernel_rfl)
@[go_sem] def R13_7 (_base : Nat) (s : St) (v0 v6 v7 v10 v12 v13 : V) : OR :=
 obind (sadv 10 v12 v13) fun x0 =>
 obind (ldv s 10 x0) fun x1 =>
 obind (rf D f_steadfastref04_Frames_Take [v10, x1] s) fun x2 =>
 obind (vbin .neq x2.1 (.int .i64 0)) fun x3 =>
 some (.normal, [(0, v0), (6, v6), (7, v7), (10, v10), (12, v12), (13, v13), (42, x3)], x2.2)
@[go_sem] theorem t13_7 : rc D b c13_7 ρ s = R13_7 b s (get ρ 0) (get ρ 6) (get ρ 7) (get ρ 10) (get ρ 12) (get ρ 13) := zr (by kernel_rfl)
@[go_sem] def R13_8 (_base : Nat) (s : St) : OR :=
 some (.normal, [(8, .nilp), (9, (.int .i64 21))], s)
@[go_sem] theorem t13_8 : rc D b c13_8 ρ s = R13_8 b s := zr (by kernel_rfl)
@[go_sem] def R13_9 (_base : Nat) (s : St) (v0 v6 v7 v10 v12 v13 : V) : OR :=
 obind (vbin .add v13 (.int .i64 1)) fun x0 =>
 some (.normal, [(0, v0), (6, v6), (7, v7), (10, v10), (12, v12), (13, x0)], s)
@[go_sem] theorem t13_9 : rc D b c13_9 ρ s = R13_9 b s (get ρ 0) (get ρ 6) (get ρ 7) (get ρ 10) (get ρ 12) (get ρ 13) := zr (by kernel_rfl)
@[go_sem] def R13_10 (_base : Nat) (s : St) (v0 v6 v7 v10 : V) : OR :=
 obind (ldv s 48 v6) fun x0 =>
 obind (ldv s 48 v6) fun x1 =>
 obind (ldv s 50 v7) fun x2 =>
 obind (setParts [.nilp, .nilp, (.agg 48 (List.replicate 49 (.agg 42 [(.int .i64 0), (.int .i64 0), (.int .i64 0)]))), (.agg 48 (List.replicate 49 (.agg 42 [(.int .i64 0), (.int .i64 0), (.int .i64 0)]))), (.agg 50 (List.replicate 8 (.int .i64 0))), (.agg 48 (List.replicate 49 (.agg 42 [(.int .i64 0), (.int .i64 0), (.int .i64 0)]))), (.bool false)] [(0, v0), (1, v10), (2, x0), (3, x1), (4, x2)]) fun x3 =>
 if V.ok (.agg 31 x3) && mayNew true (.agg 31 x3) then let x4 : V := .ptr (St.fresh s true) [] (V.tag (.agg 31 x3)); let s4 : St := St.new s true (.agg 31 x3)
 some (.normal, [(8, x4), (9, (.int .i64 0))], s4)
 else none
@[go_sem] theorem t13_10 : rc D b c13_10 ρ s = R13_10 b s (get ρ 0) (get ρ 6) (get ρ 7) (get ρ 10) := zr (by kernel_rfl)
@[go_sem] def R14_0 (_base : Nat) (s : St) (v0 v1 : V) : OR :=
 some (.normal, [(0, v0), (1, v1)], s)
@[go_sem] theorem t14_0 : rc D b c14_0 ρ s = R14_0 b s (get ρ 0) (get ρ 1) := zr (by kernel_rfl)
@[go_sem] def R14_1 (base : Nat) (s : St) (v0 v1 : V) : OR :=
 obind (rf D f_objects_Store_Base [v0] s) fun x0 =>
 obind (extv 0 x0.1) fun x1 =>
 obind (extv 1 x0.1) fun x2 =>
 let x3 : V := .ptr (St.fresh x0.2 false) [] 48; let s3 : St := St.new x0.2 false (.agg 48 (List.replicate 49 (.agg 42 [(.int .i64 0), (.int .i64 0), (.int .i64 0)])))
 let x4 : V := .ptr (St.fresh s3 false) [] 50; let s4 : St := St.new s3 false (.agg 50 (List.replicate 8 (.int .i64 0)))
 obind (stv base s4 48 x1 x3) fun s5 =>
 obind (stv base s5 50 x2 x4) fun s6 =>
 some (.normal, [(0, v0), (1, v1), (5, x3), (6, x4)], s6)
@[go_sem] theorem t14_1 : rc D b c14_1 ρ s = R14_1 b s (get ρ 0) (get ρ 1) := zr (by kernel_rfl)
@[go_sem] def R14_2 (base : Nat) (s : St) (v0 v1 v5 v6 : V) : OR :=
 obind (rf D f_objects_Store_Marked [v0] s) fun x0 =>
 obind (extv 0 x0.1) fun x1 =>
 obind (extv 1 x0.1) fun x2 =>
 let x3 : V := .ptr (St.fresh x0.2 false) [] 48; let s3 : St := St.new x0.2 false (.agg 48 (List.replicate 49 (.agg 42 [(.int .i64 0), (.int .i64 0), (.int .i64 0)])))
 obind (stv base s3 48 x1 x3) fun s4 =>
 some (.normal, [(0, v0), (1, v1), (5, v5), (6, v6), (7, x3), (8, x2)], s4)
@[go_sem] theorem t14_2 : rc D b c14_2 ρ s = R14_2 b s (get ρ 0) (get ρ 1) (get ρ 5) (get ρ 6) := zr (by kernel_rfl)
@[go_sem] def R14_3 (base : Nat) (s : St) (v0 v1 v5 v6 v7 v8 : V) : OR :=
 obind (pcallw D (pcut base [v0]) base f_objects_Store_Table [v0] s) fun x0 =>
 obind (nilv v1) fun x1 =>
 obind (fadv 31 2 48 x1) fun x2 =>
 obind (ldv s 48 x2) fun x3 =>
 obind (eqv false 48 x0 x3) fun x4 =>
 oguard x4 true (
   obind (ldv s 48 v5) fun x5 =>
   obind (nilv v1) fun x6 =>
   obind (fadv 31 3 48 x6) fun x7 =>
   obind (ldv s 48 x7) fun x8 =>
   obind (eqv false 48 x5 x8) fun x9 =>
   oguard x9 true (
     obind (ldv s 50 v6) fun x10 =>
     obind (nilv v1) fun x11 =>
     obind (fadv 31 4 50 x11) fun x12 =>
     obind (ldv s 50 x12) fun x13 =>
     obind (eqv false 50 x10 x13) fun x14 =>
     oguard x14 true (
       obind (nilv v1) fun x15 =>
       obind (fadv 31 6 0 x15) fun x16 =>
       obind (ldv s 0 x16) fun x17 =>
       obind (eqv false 0 v8 x17) fun x18 =>
       oguard x18 true (
         obind (vun .not v8) fun x19 =>
         oguard x19 false (
           obind (ldv s 48 v7) fun x20 =>
           obind (nilv v1) fun x21 =>
           obind (fadv 31 5 48 x21) fun x22 =>
           obind (ldv s 48 x22) fun x23 =>
           obind (eqv false 48 x20 x23) fun x24 =>
           oguard x24 true (
             obind (pcallw D (pcut base [v0]) base f_objects_Store_Left [v0] s) fun x25 =>
             obind (nilv v1) fun x26 =>
             obind (fadv 31 1 1 x26) fun x27 =>
             obind (ldv s 1 x27) fun x28 =>
             obind (pcallw D (pcut base [x28]) base f_steadfastref04_Frames_Left [x28] s) fun x29 =>
             obind (vbin .eql x25 x29) fun x30 =>
             some (.normal, [(4, x30)], s)) (
             some (.normal, [(4, (.bool false))], s)) (
             none)) (
           obind (pcallw D (pcut base [v0]) base f_objects_Store_Left [v0] s) fun x20 =>
           obind (nilv v1) fun x21 =>
           obind (fadv 31 1 1 x21) fun x22 =>
           obind (ldv s 1 x22) fun x23 =>
           obind (pcallw D (pcut base [x23]) base f_steadfastref04_Frames_Left [x23] s) fun x24 =>
           obind (vbin .eql x20 x24) fun x25 =>
           some (.normal, [(4, x25)], s)) (
           none)) (
         some (.normal, [(4, (.bool false))], s)) (
         none)) (
       some (.normal, [(4, (.bool false))], s)) (
       none)) (
     some (.normal, [(4, (.bool false))], s)) (
     none)) (
   some (.normal, [(4, (.bool false))], s)) (
   none)
@[go_sem] theorem t14_3 : rc D b c14_3 ρ s = R14_3 b s (get ρ 0) (get ρ 1) (get ρ 5) (get ρ 6) (get ρ 7) (get ρ 8) := zd (by kernel_rfl)
@[go_sem] def R15_0 (_base : Nat) (s : St) (v0 : V) : OR :=
 let x0 : V := .ptr (St.fresh s false) [] 48; let s0 : St := St.new s false (.agg 48 (List.replicate 49 (.agg 42 [(.int .i64 0), (.int .i64 0), (.int .i64 0)])))
 some (.normal, [(0, v0), (2, x0)], s0)
@[go_sem] theorem t15_0 : rc D b c15_0 ρ s = R15_0 b s (get ρ 0) := zr (by kernel_rfl)
@[go_sem] def R15_1 (base : Nat) (s : St) (v0 v2 : V) : OR :=
 obind (setParts (List.replicate 49 (.agg 42 [(.int .i64 0), (.int .i64 0), (.int .i64 0)])) []) fun x0 =>
 let x1 : V := .ptr (St.fresh s false) [] 48; let s1 : St := St.new s false (.agg 48 (List.replicate 49 (.agg 42 [(.int .i64 0), (.int .i64 0), (.int .i64 0)])))
 obind (stv base s1 48 (.agg 48 x0) x1) fun s2 =>
 some (.normal, [(0, v0), (2, v2), (3, x1)], s2)
@[go_sem] theorem t15_1 : rc D b c15_1 ρ s = R15_1 b s (get ρ 0) (get ρ 2) := zr (by kernel_rfl)
@[go_sem] def R15_2 (_base : Nat) (s : St) (v0 v2 v3 : V) : OR :=
 some (.normal, [(0, v0), (2, v2), (3, v3), (4, (.int .i64 0))], s)
@[go_sem] theorem t15_2 : rc D b c15_2 ρ s = R15_2 b s (get ρ 0) (get ρ 2) (get ρ 3) := zr (by kernel_rfl)
@[go_sem] def R15_3 (_base : Nat) (s : St) (v0 v2 v3 v4 : V) : OR :=
 obind (vbin .lss v4 v0) fun x0 =>
 oguard x0 true (
   obind (vbin .lss v4 (.int .i64 49)) fun x1 =>
   some (.normal, [(0, v0), (2, v2), (3, v3), (4, v4), (12, x1)], s)) (
   some (.normal, [(0, v0), (2, v2), (3, v3), (4, v4), (12, (.bool false))], s)) (
   none)
@[go_sem] theorem t15_3 : rc D b c15_3 ρ s = R15_3 b s (get ρ 0) (get ρ 2) (get ρ 3) (get ρ 4) := zr (by kernel_rfl)
@[go_sem] def R15_4 (base : Nat) (s : St) (v0 v2 v3 v4 : V) : OR :=
 obind (vbin .rem v4 (.int .i64 4)) fun x0 =>
 obind (vbin .add (.int .i64 1) x0) fun x1 =>
 obind (vbin .add (.int .i64 20) v4) fun x2 =>
 obind (setParts [(.int .i64 0), (.int .i64 0), (.int .i64 0)] [(0, x1), (1, v4), (2, x2)]) fun x3 =>
 obind (iadv 48 49 42 v3 v4) fun x4 =>
 obind (stv base s 42 (.agg 42 x3) x4) fun s5 =>
 some (.normal, [(0, v0), (2, v2), (3, v3), (4, v4)], s5)
@[go_sem] theorem t15_4 : rc D b c15_4 ρ s = R15_4 b s (get ρ 0) (get ρ 2) (get ρ 3) (get ρ 4) := zr (by kernel_rfl)
@[go_sem] def R15_5 (_base : Nat) (s : St) (v0 v2 v3 v4 : V) : OR :=
 obind (vbin .add v4 (.int .i64 1)) fun x0 =>
 some (.normal, [(0, v0), (2, v2), (3, v3), (4, x0)], s)
@[go_sem] theorem t15_5 : rc D b c15_5 ρ s = R15_5 b s (get ρ 0) (get ρ 2) (get ρ 3) (get ρ 4) := zr (by kernel_rfl)
@[go_sem] def R15_6 (base : Nat) (s : St) (v2 v3 : V) : OR :=
 obind (ldv s 48 v3) fun x0 =>
 obind (stv base s 48 x0 v2) fun s1 =>
 some (.normal, [(2, v2)], s1)
@[go_sem] theorem t15_6 : rc D b c15_6 ρ s = R15_6 b s (get ρ 2) (get ρ 3) := zr (by kernel_rfl)
@[go_sem] def R16_0 (_base : Nat) (s : St) : OR :=
 let x0 : V := .ptr (St.fresh s false) [] 50; let s0 : St := St.new s false (.agg 50 (List.replicate 8 (.int .i64 0)))
 some (.normal, [(0, x0)], s0)
@[go_sem] theorem t16_0 : rc D b c16_0 ρ s = R16_0 b s := zr (by kernel_rfl)
@[go_sem] def R16_1 (base : Nat) (s : St) (v0 : V) : OR :=
 obind (setParts (List.replicate 8 (.int .i64 0)) []) fun x0 =>
 let x1 : V := .ptr (St.fresh s false) [] 50; let s1 : St := St.new s false (.agg 50 (List.replicate 8 (.int .i64 0)))
 obind (stv base s1 50 (.agg 50 x0) x1) fun s2 =>
 some (.normal, [(0, v0), (1, x1)], s2)
@[go_sem] theorem t16_1 : rc D b c16_1 ρ s = R16_1 b s (get ρ 0) := zr (by kernel_rfl)
@[go_sem] def R16_2 (_base : Nat) (s : St) (v0 v1 : V) : OR :=
 some (.normal, [(0, v0), (1, v1), (2, (.int .i64 0))], s)
@[go_sem] theorem t16_2 : rc D b c16_2 ρ s = R16_2 b s (get ρ 0) (get ρ 1) := zr (by kernel_rfl)
@[go_sem] def R16_3 (_base : Nat) (s : St) (v0 v1 v2 : V) : OR :=
 obind (vbin .lss v2 (.int .i64 8)) fun x0 =>
 some (.normal, [(0, v0), (1, v1), (2, v2), (5, x0)], s)
@[go_sem] theorem t16_3 : rc D b c16_3 ρ s = R16_3 b s (get ρ 0) (get ρ 1) (get ρ 2) := zr (by kernel_rfl)
@[go_sem] def R16_4 (base : Nat) (s : St) (v0 v1 v2 : V) : OR :=
 obind (vbin .add (.int .i64 10) v2) fun x0 =>
 obind (iadv 50 8 10 v1 v2) fun x1 =>
 obind (stv base s 10 x0 x1) fun s2 =>
 some (.normal, [(0, v0), (1, v1), (2, v2)], s2)
@[go_sem] theorem t16_4 : rc D b c16_4 ρ s = R16_4 b s (get ρ 0) (get ρ 1) (get ρ 2) := zr (by kernel_rfl)
@[go_sem] def R16_5 (_base : Nat) (s : St) (v0 v1 v2 : V) : OR :=
 obind (vbin .add v2 (.int .i64 1)) fun x0 =>
 some (.normal, [(0, v0), (1, v1), (2, x0)], s)
@[go_sem] theorem t16_5 : rc D b c16_5 ρ s = R16_5 b s (get ρ 0) (get ρ 1) (get ρ 2) := zr (by kernel_rfl)
@[go_sem] def R16_6 (base : Nat) (s : St) (v0 v1 : V) : OR :=
 obind (ldv s 50 v1) fun x0 =>
 obind (stv base s 50 x0 v0) fun s1 =>
 some (.normal, [(0, v0)], s1)
@[go_sem] theorem t16_6 : rc D b c16_6 ρ s = R16_6 b s (get ρ 0) (get ρ 1) := zr (by kernel_rfl)
@[go_sem] def R17_0 (_base : Nat) (s : St) (v0 v1 : V) : OR :=
 some (.normal, [(0, v0), (1, v1)], s)
@[go_sem] theorem t17_0 : rc D b c17_0 ρ s = R17_0 b s (get ρ 0) (get ρ 1) := zr (by kernel_rfl)
@[go_sem] def R17_1 (_base : Nat) (s : St) (v0 v1 : V) : OR :=
 obind (vbin .lss v0 (.int .i64 0)) fun x0 =>
 some (.normal, [(0, v0), (1, v1), (6, x0)], s)
@[go_sem] theorem t17_1 : rc D b c17_1 ρ s = R17_1 b s (get ρ 0) (get ρ 1) := zr (by kernel_rfl)
@[go_sem] def R17_2 (_base : Nat) (s : St) (v0 v1 : V) : OR :=
 obind (vbin .add v0 (.int .i64 1)) fun x0 =>
 obind (vun .neg x0) fun x1 =>
 some (.normal, [(0, x1), (1, v1)], s)
@[go_sem] theorem t17_2 : rc D b c17_2 ρ s = R17_2 b s (get ρ 0) (get ρ 1) := zr (by kernel_rfl)
@[go_sem] def R17_3 (_base : Nat) (s : St) (v0 v1 : V) : OR :=
 obind (vbin .rem v0 v1) fun x0 =>
 some (.normal, [(4, x0)], s)
@[go_sem] theorem t17_3 : rc D b c17_3 ρ s = R17_3 b s (get ρ 0) (get ρ 1) := zr (by kernel_rfl)
@[go_sem] def R18_0 (_base : Nat) (s : St) (v0 : V) : OR :=
 some (.normal, [(0, v0)], s)
@[go_sem] theorem t18_0 : rc D b c18_0 ρ s = R18_0 b s (get ρ 0) := zr (by kernel_rfl)
@[go_sem] def R18_1 (_base : Nat) (s : St) (v0 : V) : OR :=
 obind (nilv v0) fun x0 =>
 obind (fadv 43 1 1 x0) fun x1 =>
 obind (ldv s 1 x1) fun x2 =>
 obind (rf D f_frames_Frames_Left [x2] s) fun x3 =>
 some (.normal, [(2, x3.1)], x3.2)
@[go_sem] theorem t18_1 : rc D b c18_1 ρ s = R18_1 b s (get ρ 0) := zr (by kernel_rfl)
@[go_sem] def R19_0 (_base : Nat) (s : St) (v0 v1 v2 v3 : V) : OR :=
 some (.normal, [(0, v0), (1, v1), (2, v2), (3, v3)], s)
@[go_sem] theorem t19_0 : rc D b c19_0 ρ s = R19_0 b s (get ρ 0) (get ρ 1) (get ρ 2) (get ρ 3) := zr (by kernel_rfl)
@[go_sem] def R19_1 (_base : Nat) (s : St) (v0 v1 v2 v3 : V) : OR :=
 obind (rf D f_objects_Store_is [v0, v1] s) fun x0 =>
 some (.normal, [(0, v0), (1, v1), (2, v2), (3, v3), (9, x0.1)], x0.2)
@[go_sem] theorem t19_1 : rc D b c19_1 ρ s = R19_1 b s (get ρ 0) (get ρ 1) (get ρ 2) (get ρ 3) := zr (by kernel_rfl)
@[go_sem] def R19_2 (_base : Nat) (s : St) (v0 v1 v2 v3 v9 : V) : OR :=
 obind (vbin .eql v9 (.int .i64 1)) fun x0 =>
 some (.normal, [(0, v0), (1, v1), (2, v2), (3, v3), (9, v9), (15, x0)], s)
@[go_sem] theorem t19_2 : rc D b c19_2 ρ s = R19_2 b s (get ρ 0) (get ρ 1) (get ρ 2) (get ρ 3) (get ρ 9) := zr (by kernel_rfl)
@[go_sem] def R19_3 (_base : Nat) (s : St) (v0 v1 v2 v3 v9 : V) : OR :=
 obind (vbin .lss v2 (.int .i64 0)) fun x0 =>
 some (.normal, [(0, v0), (1, v1), (2, v2), (3, v3), (9, v9), (15, x0)], s)
@[go_sem] theorem t19_3 : rc D b c19_3 ρ s = R19_3 b s (get ρ 0) (get ρ 1) (get ρ 2) (get ρ 3) (get ρ 9) := zr (by kernel_rfl)
@[go_sem] def R19_4 (_base : Nat) (s : St) (v0 v1 v2 v3 v9 : V) : OR :=
 obind (vbin .geq v2 (.int .i64 8)) fun x0 =>
 some (.normal, [(0, v0), (1, v1), (2, v2), (3, v3), (9, v9), (15, x0)], s)
@[go_sem] theorem t19_4 : rc D b c19_4 ρ s = R19_4 b s (get ρ 0) (get ρ 1) (get ρ 2) (get ρ 3) (get ρ 9) := zr (by kernel_rfl)
@[go_sem] def R19_5 (_base : Nat) (s : St) : OR :=
 some (.normal, [(8, (.int .i64 1))], s)
@[go_sem] theorem t19_5 : rc D b c19_5 ρ s = R19_5 b s := zr (by kernel_rfl)
@[go_sem] def R19_6 (_base : Nat) (s : St) (v0 v1 v2 v3 v9 : V) : OR :=
 obind (vbin .neq v9 (.int .i64 0)) fun x0 =>
 some (.normal, [(0, v0), (1, v1), (2, v2), (3, v3), (9, v9), (22, x0)], s)
@[go_sem] theorem t19_6 : rc D b c19_6 ρ s = R19_6 b s (get ρ 0) (get ρ 1) (get ρ 2) (get ρ 3) (get ρ 9) := zr (by kernel_rfl)
@[go_sem] def R19_7 (_base : Nat) (s : St) (v9 : V) : OR :=
 some (.normal, [(8, v9)], s)
@[go_sem] theorem t19_7 : rc D b c19_7 ρ s = R19_7 b s (get ρ 9) := zr (by kernel_rfl)
@[go_sem] def R19_8 (_base : Nat) (s : St) (v0 v1 v2 v3 : V) : OR :=
 obind (rf D f_objects_Store_own [v0, v1] s) fun x0 =>
 some (.normal, [(0, v0), (1, v1), (2, v2), (3, v3), (26, x0.1)], x0.2)
@[go_sem] theorem t19_8 : rc D b c19_8 ρ s = R19_8 b s (get ρ 0) (get ρ 1) (get ρ 2) (get ρ 3) := zr (by kernel_rfl)
@[go_sem] def R19_9 (_base : Nat) (s : St) (v0 v1 v2 v3 : V) : OR :=
 obind (nilv v0) fun x0 =>
 obind (fadv 43 0 1 x0) fun x1 =>
 obind (ldv s 1 x1) fun x2 =>
 obind (nilv v0) fun x3 =>
 obind (fadv 43 2 48 x3) fun x4 =>
 obind (iadv 48 49 42 x4 v1) fun x5 =>
 obind (fadv 42 2 10 x5) fun x6 =>
 obind (ldv s 10 x6) fun x7 =>
 obind (rf D f_nvm_Memory_Store [x2, x7, v2, v3] s) fun x8 =>
 some (.normal, [(8, x8.1)], x8.2)
@[go_sem] theorem t19_9 : rc D b c19_9 ρ s = R19_9 b s (get ρ 0) (get ρ 1) (get ρ 2) (get ρ 3) := zd (by kernel_rfl)
@[go_sem] def R19_10 (_base : Nat) (s : St) (v0 v1 v2 v3 : V) : OR :=
 obind (nilv v0) fun x0 =>
 obind (fadv 43 1 1 x0) fun x1 =>
 obind (ldv s 1 x1) fun x2 =>
 obind (rf D f_frames_Frames_Left [x2] s) fun x3 =>
 obind (vbin .eql x3.1 (.int .i64 0)) fun x4 =>
 some (.normal, [(0, v0), (1, v1), (2, v2), (3, v3), (44, x4)], x3.2)
@[go_sem] theorem t19_10 : rc D b c19_10 ρ s = R19_10 b s (get ρ 0) (get ρ 1) (get ρ 2) (get ρ 3) := zr (by kernel_rfl)
@[go_sem] def R19_11 (_base : Nat) (s : St) : OR :=
 some (.normal, [(8, (.int .i64 10))], s)
@[go_sem] theorem t19_11 : rc D b c19_11 ρ s = R19_11 b s := zr (by kernel_rfl)
@[go_sem] def R19_12 (base : Nat) (s : St) (v0 v1 v2 v3 : V) : OR :=
 obind (nilv v0) fun x0 =>
 obind (fadv 43 0 1 x0) fun x1 =>
 obind (ldv s 1 x1) fun x2 =>
 obind (nilv v0) fun x3 =>
 obind (fadv 43 2 48 x3) fun x4 =>
 obind (iadv 48 49 42 x4 v1) fun x5 =>
 obind (fadv 42 2 10 x5) fun x6 =>
 obind (ldv s 10 x6) fun x7 =>
 obind (pcallw D (pcut base [x2, x7]) base f_nvm_Memory_Load [x2, x7] s) fun x8 =>
 obind (extv 0 x8) fun x9 =>
 obind (extv 1 x8) fun x10 =>
 let x11 : V := .ptr (St.fresh s false) [] 24; let s11 : St := St.new s false (.agg 24 (List.replicate 8 (.int .u64 0)))
 obind (stv base s11 24 x9 x11) fun s12 =>
 some (.normal, [(0, v0), (1, v1), (2, v2), (3, v3), (9, x10), (10, x11)], s12)
@[go_sem] theorem t19_12 : rc D b c19_12 ρ s = R19_12 b s (get ρ 0) (get ρ 1) (get ρ 2) (get ρ 3) := zd (by kernel_rfl)

end
end Go.Proofs.YtnffmibpblibdaaDoor
