/-
  YtpbpgbedkmbfkaaDoorCode: the code of the functions that this seat's laws reach, in the form of Ab1 (printed by a program out of the translation; held against it in YtpbpgbedkmbfkaaDoorChk).
-/
import Derived.Test.YtpbpgbedkmbfkaaDoorAbG
import Derived.KernelRfl
set_option maxRecDepth 100000
namespace Go.Proofs.YtpbpgbedkmbfkaaDoor
open Go.Ab
noncomputable section
variable {b : Nat} {ρ : Env} {s : St}
def glob_0 : V := .ptr (.hp 0) [] 108
@[go_sem] theorem glob_0_eq : glob_0 = .ptr (.hp 0) [] 108 := nd rfl
def tabl_0 : List Int := [0, 1, 56, 2, 57, 49, 28, 3, 61, 58, 42, 50, 38, 29, 17, 4, 62, 47, 59, 36, 45, 43, 51, 22, 53, 39, 33, 30, 24, 18, 12, 5, 63, 55, 48, 27, 60, 41, 37, 16, 46, 35, 44, 21, 52, 32, 23, 11, 54, 26, 40, 15, 34, 20, 31, 10, 25, 14, 19, 9, 13, 8, 7, 6]
def globV_0 : V := .agg 108 (tabl_0.map (.int .u8))
/-- The variables of the program that the laws read. -/
def G : List Blk := [.ro globV_0]
/-! The functions' numbers. -/
def f_steadfastlaw18_BankMakes : Nat := 3
def f_steadfastlaw18_shown : Nat := 4
def f_steadfastlaw18_made : Nat := 5
def f_bank_Make : Nat := 6
def f_steadfastref18_Make : Nat := 7
def f_objects_Store_Names : Nat := 8
def f_objects_Store_Make : Nat := 9
def f_caps_May : Nat := 10
def f_steadfastref07_Word : Nat := 11
def f_bank_End : Nat := 12
def f_nvm_Of : Nat := 13
def f_steadfastref03_Of : Nat := 14
def f_objects_Of : Nat := 15
def f_steadfastref10_Of : Nat := 16
def f_bank_by : Nat := 17
def f_objects_Store_Next : Nat := 18
def f_caps_Word : Nat := 19
def f_steadfastref07_May : Nat := 20
def f_steadfastref10_Store_Next : Nat := 21
def f_caps_Of : Nat := 22
def f_entry_Names : Nat := 23
def f_objects_Store_lay : Nat := 24
def f_steadfastref01_With : Nat := 25
def f_nvm_New : Nat := 26
def f_frames_New : Nat := 27
def f_nvm_Memory_Lines : Nat := 28
def f_frames_Frames_Take : Nat := 29
def f_objects_Store_share : Nat := 30
def f_steadfastref04_New : Nat := 31
def f_steadfastref10_lines : Nat := 32
def f_steadfastref04_Frames_Take : Nat := 33
def f_entry_Open : Nat := 34
def f_caps_may : Nat := 35
def f_steadfastref07_Of : Nat := 36
def f_steadfastref08_Open : Nat := 37
def f_frames_Frames_Alloc : Nat := 38
def f_nvm_Memory_Store : Nat := 39
def f_steadfastref01_is : Nat := 40
def f_steadfastref01_bit : Nat := 41
def f_frames_set_turn : Nat := 42
def f_frames_Frames_in : Nat := 43
def f_objects_lines_add : Nat := 44
def f_steadfastref04_Frames_turn : Nat := 45
def f_caps_within : Nat := 46
def f_steadfastref01_Field : Nat := 47
def f_math_bits_TrailingZeros64 : Nat := 48
def f_nvm_Memory_at : Nat := 49
def f_nvm_Memory_step : Nat := 50
def f_frames_Frames_State : Nat := 51
def f_steadfastref04_Frames_State : Nat := 52
def f_frames_set_has : Nat := 53
def c3_0 : C := .reg (some [0, 1, 2]) [zq 6 (.mv (.k (.bool false)))]
def c3_1 : C := .reg (some [0, 1, 2, 7]) [zq 22 (.call (zf f_steadfastlaw18_shown) []),
zq 7 (.mv 22)]
def c3_2 : C := .reg (some [1, 2, 7, 8, 9]) [zq 24 (.mv 0),
zq 25 (.call (zf f_steadfastlaw18_made) [24]),
zq 23 (.mv 25),
zq 26 (.ext 23 0),
zq 27 (.ext 23 1),
zq 8 (.mv 26),
zq 9 (.mv 27)]
def c3_3 : C := .reg (some [1, 2, 8, 9, 33]) [zq 28 (.mv 7),
zq 29 (.un .not 28),
zq 30 (.mv 29),
zg 31 30 false (.mv 8),
zg 32 30 false (.eq false 1 31 (.k .nilp)),
zq 33 (.pick 30 (.k (.bool true)) 32)]
def c3_4 : C := .reg (some [6]) [zq 6 (.mv (.k (.bool false)))]
def c3_5 : C := .reg (some [1, 2, 8, 9, 10, 11, 12]) [zq 35 (.mv 8),
zq 36 (.mv 1),
zq 37 (.mv 2),
zq 38 (.call (zf f_bank_Make) [35, 36, 37]),
zq 34 (.mv 38),
zq 39 (.ext 34 0),
zq 40 (.ext 34 1),
zq 41 (.ext 34 2),
zq 10 (.mv 39),
zq 11 (.mv 40),
zq 12 (.mv 41)]
def c3_6 : C := .reg (some [2, 8, 10, 11, 12, 13, 14, 15]) [zq 43 (.mv 9),
zq 44 (.mv 1),
zq 45 (.mv 2),
zq 46 (.call (zf f_steadfastref18_Make) [43, 44, 45]),
zq 42 (.mv 46),
zq 47 (.ext 42 0),
zq 48 (.ext 42 1),
zq 49 (.ext 42 2),
zq 13 (.mv 47),
zq 14 (.mv 48),
zq 15 (.mv 49)]
def c3_7 : C := .reg (some [2, 8, 10, 11, 12, 62]) [zq 50 (.mv 10),
zq 51 (.mv 13),
zq 52 (.bin .neq 50 51),
zq 53 (.mv 52),
zg 54 53 false (.mv 11),
zg 55 53 false (.mv 14),
zg 56 53 false (.bin .neq 54 55),
zq 57 (.pick 53 (.k (.bool true)) 56),
zq 58 (.mv 57),
zg 59 58 false (.mv 12),
zg 60 58 false (.mv 15),
zg 61 58 false (.bin .neq 59 60),
zq 62 (.pick 58 (.k (.bool true)) 61)]
def c3_8 : C := .reg (some [6]) [zq 6 (.mv (.k (.bool false)))]
def c3_9 : C := .reg (some [2, 8, 10, 11, 64]) [zq 63 (.mv 12),
zq 64 (.bin .neq 63 (zi 0))]
def c3_10 : C := .reg (some [6]) [zq 6 (.mv (.k (.bool true)))]
def c3_11 : C := .reg (some [2, 8, 10, 11, 17]) [zq 66 (.mv 8),
zq 67 (.mv 11),
zq 68 (.call (zf f_objects_Store_Names) [66, 67]),
zq 65 (.mv 68),
zq 69 (.ext 65 0),
zq 70 (.ext 65 1),
zq 16 (.mv 69),
zq 17 (.mv 70)]
def c3_12 : C := .reg (some [2, 8, 10, 11, 17, 18, 19]) [zq 72 (.mv 8),
zq 73 (.mv 2),
zq 74 (.call (zf f_objects_Store_Make) [72, 73]),
zq 71 (.mv 74),
zq 75 (.ext 71 0),
zq 76 (.ext 71 1),
zq 18 (.mv 75),
zq 19 (.mv 76)]
def c3_13 : C := .reg (some [2, 10, 11, 17, 18, 19, 20, 21]) [zq 78 (.mv 8),
zq 79 (.mv 11),
zq 80 (.call (zf f_objects_Store_Names) [78, 79]),
zq 77 (.mv 80),
zq 81 (.ext 77 0),
zq 82 (.ext 77 1),
zq 20 (.mv 81),
zq 21 (.mv 82)]
def c3_14 : C := .reg (some [6]) [zq 83 (.mv 17),
zq 84 (.bin .neq 83 (zi 0)),
zq 85 (.mv 84),
zg 86 85 true (.mv 19),
zg 87 85 true (.bin .eql 86 (zi 0)),
zq 88 (.pick 85 87 (.k (.bool false))),
zq 89 (.mv 88),
zg 90 89 true (.mv 18),
zg 91 89 true (.mv 10),
zg 92 89 true (.bin .eql 90 91),
zq 93 (.pick 89 92 (.k (.bool false))),
zq 94 (.mv 93),
zg 95 94 true (.mv 21),
zg 96 94 true (.bin .eql 95 (zi 0)),
zq 97 (.pick 94 96 (.k (.bool false))),
zq 98 (.mv 97),
zg 99 98 true (.mv 20),
zg 100 98 true (.mv 10),
zg 101 98 true (.bin .eql 99 100),
zq 102 (.pick 98 101 (.k (.bool false))),
zq 103 (.mv 102),
zg 104 103 true (.mv 11),
zg 105 103 true (.mv 2),
zg 106 103 true (.call (zf f_caps_May) [104, 105, (zi 15)]),
zg 107 103 true (.bin .eql 106 (zi 0)),
zq 108 (.pick 103 107 (.k (.bool false))),
zq 6 (.mv 108)]
/-- steadfast/steadfastlaw18.BankMakes -/
@[go_sem] def fc_steadfastlaw18_BankMakes : Fc := ⟨3,
  .seq (c3_0) (
  .seq (c3_1) (
  .seq (c3_2) (
  .seq (.seq (c3_3) (
  .cond (.t 33) (
    .seq (c3_4) (
    .ret)) (
    .skip))) (
  .seq (c3_5) (
  .seq (c3_6) (
  .seq (.seq (c3_7) (
  .cond (.t 62) (
    .seq (c3_8) (
    .ret)) (
    .skip))) (
  .seq (.seq (c3_9) (
  .cond (.t 64) (
    .seq (c3_10) (
    .ret)) (
    .skip))) (
  .seq (c3_11) (
  .seq (c3_12) (
  .seq (c3_13) (
  .seq (c3_14) (
  .ret)))))))))))),
  [.t 6]⟩
def c4_0 : C := .reg (some []) [zq 0 (.mv (.k (.bool false)))]
def c4_1 : C := .reg (some [1]) [zq 19 (.call (zf f_steadfastlaw18_made) [(.k .nils)]),
zq 18 (.mv 19),
zq 20 (.ext 18 0),
zq 21 (.ext 18 1),
zq 1 (.mv 20),
zq 2 (.mv 21)]
def c4_2 : C := .reg (some [1, 23]) [zq 22 (.mv 1),
zq 23 (.eq false 1 22 (.k .nilp))]
def c4_3 : C := .reg (some [0]) [zq 0 (.mv (.k (.bool false)))]
def c4_4 : C := .reg (some [1, 3]) [zq 25 (.bld (.agg 40 [(.int .i64 0), (.int .i64 0), (.int .i64 0), (.int .i64 0), (.int .i64 0)]) [(0, (zi 5)), (1, (zi 1))]),
zq 26 (.call (zf f_steadfastref07_Word) [25]),
zq 24 (.mv 26),
zq 27 (.ext 24 0),
zq 28 (.ext 24 1),
zq 3 (.mv 27),
zq 4 (.mv 28)]
def c4_5 : C := .reg (some [1, 3, 5]) [zq 30 (.bld (.agg 40 [(.int .i64 0), (.int .i64 0), (.int .i64 0), (.int .i64 0), (.int .i64 0)]) [(0, (zi 5)), (1, (zi 3))]),
zq 31 (.call (zf f_steadfastref07_Word) [30]),
zq 29 (.mv 31),
zq 32 (.ext 29 0),
zq 33 (.ext 29 1),
zq 5 (.mv 32),
zq 6 (.mv 33)]
def c4_6 : C := .reg (some [1, 3, 5, 9]) [zq 35 (.mv 1),
zq 36 (.call (zf f_bank_Make) [35, (.k (.int .u64 0)), (zi 1)]),
zq 34 (.mv 36),
zq 37 (.ext 34 0),
zq 38 (.ext 34 1),
zq 39 (.ext 34 2),
zq 7 (.mv 37),
zq 8 (.mv 38),
zq 9 (.mv 39)]
def c4_7 : C := .reg (some [1, 5, 9, 12]) [zq 41 (.mv 1),
zq 42 (.mv 3),
zq 43 (.call (zf f_bank_Make) [41, 42, (zi 1)]),
zq 40 (.mv 43),
zq 44 (.ext 40 0),
zq 45 (.ext 40 1),
zq 46 (.ext 40 2),
zq 10 (.mv 44),
zq 11 (.mv 45),
zq 12 (.mv 46)]
def c4_8 : C := .reg (some [1, 5, 9, 12, 14]) [zq 48 (.mv 1),
zq 49 (.mv 5),
zq 50 (.call (zf f_bank_End) [48, 49, (.k (.int .u64 0))]),
zq 47 (.mv 50),
zq 51 (.ext 47 0),
zq 52 (.ext 47 1),
zq 13 (.mv 51),
zq 14 (.mv 52)]
def c4_9 : C := .reg (some [9, 12, 14, 15, 16, 17]) [zq 54 (.mv 1),
zq 55 (.mv 5),
zq 56 (.call (zf f_bank_Make) [54, 55, (zi 1)]),
zq 53 (.mv 56),
zq 57 (.ext 53 0),
zq 58 (.ext 53 1),
zq 59 (.ext 53 2),
zq 15 (.mv 57),
zq 16 (.mv 58),
zq 17 (.mv 59)]
def c4_10 : C := .reg (some [0]) [zq 60 (.mv 9),
zq 61 (.bin .eql 60 (zi 31)),
zq 62 (.mv 61),
zg 63 62 true (.mv 12),
zg 64 62 true (.bin .eql 63 (zi 32)),
zq 65 (.pick 62 64 (.k (.bool false))),
zq 66 (.mv 65),
zg 67 66 true (.mv 14),
zg 68 66 true (.bin .eql 67 (zi 31)),
zq 69 (.pick 66 68 (.k (.bool false))),
zq 70 (.mv 69),
zg 71 70 true (.mv 15),
zg 72 70 true (.bin .eql 71 (zi 0)),
zq 73 (.pick 70 72 (.k (.bool false))),
zq 74 (.mv 73),
zg 75 74 true (.mv 16),
zg 76 74 true (.bin .eql 75 (.k (.int .u64 241))),
zq 77 (.pick 74 76 (.k (.bool false))),
zq 78 (.mv 77),
zg 79 78 true (.mv 17),
zg 80 78 true (.bin .eql 79 (zi 0)),
zq 81 (.pick 78 80 (.k (.bool false))),
zq 0 (.mv 81)]
/-- steadfast/steadfastlaw18.shown -/
@[go_sem] def fc_steadfastlaw18_shown : Fc := ⟨0,
  .seq (c4_0) (
  .seq (c4_1) (
  .seq (.seq (c4_2) (
  .cond (.t 23) (
    .seq (c4_3) (
    .ret)) (
    .skip))) (
  .seq (c4_4) (
  .seq (c4_5) (
  .seq (c4_6) (
  .seq (c4_7) (
  .seq (c4_8) (
  .seq (c4_9) (
  .seq (c4_10) (
  .ret)))))))))),
  [.t 0]⟩
def c5_0 : C := .reg (some [0]) [zq 2 (.mv (.k .nilp)),
zq 3 (.mv (.k .nilp))]
def c5_1 : C := .reg (some [0, 4]) [zq 19 (.mksl false 58 24 (.agg 24 (List.replicate 8 (.int .u64 0))) (zi 100) (zi 100)),
zq 4 (.mv 19)]
def c5_2 : C := .reg (some [0, 4, 5]) [zq 20 (.bld (.agg 48 (List.replicate 49 (.agg 42 [(.int .i64 0), (.int .i64 0), (.int .i64 0)]))) []),
zq 5 (.alloc false (.agg 48 (List.replicate 49 (.agg 42 [(.int .i64 0), (.int .i64 0), (.int .i64 0)])))),
zw (.st 48 5 20)]
def c5_3 : C := .reg (some [0, 4, 5, 6]) [zq 6 (.mv (zi 0))]
def c5_4 : C := .reg (some [0, 4, 5, 6, 28]) [zq 21 (.mv 6),
zq 22 (.mv 0),
zq 23 (.len false 22),
zq 24 (.bin .lss 21 23),
zq 25 (.mv 24),
zg 26 25 true (.mv 6),
zg 27 25 true (.bin .lss 26 (zi 49)),
zq 28 (.pick 25 27 (.k (.bool false)))]
def c5_5 : C := .reg (some [0, 4, 5, 6, 7]) [zq 31 (.mv 0),
zq 32 (.mv 6),
zq 33 (.sad 26 31 32),
zq 34 (.fad 26 0 10 33),
zq 35 (.ld 10 34),
zq 36 (.bin .rem 35 (zi 5)),
zq 7 (.mv 36)]
def c5_6 : C := .reg (some [0, 4, 5, 6, 7, 38]) [zq 37 (.mv 7),
zq 38 (.bin .lss 37 (zi 0))]
def c5_7 : C := .reg (some [0, 4, 5, 6, 7]) [zq 39 (.mv 7),
zq 40 (.un .neg 39),
zq 7 (.mv 40)]
def c5_8 : C := .reg (some [0, 4, 5, 6, 7, 8]) [zq 41 (.mv 0),
zq 42 (.mv 6),
zq 43 (.sad 26 41 42),
zq 44 (.fad 26 1 10 43),
zq 45 (.ld 10 44),
zq 46 (.bin .rem 45 (zi 16777216)),
zq 8 (.mv 46)]
def c5_9 : C := .reg (some [0, 4, 5, 6, 7, 8, 48]) [zq 47 (.mv 8),
zq 48 (.bin .lss 47 (zi 0))]
def c5_10 : C := .reg (some [0, 4, 5, 6, 7, 8]) [zq 49 (.mv 8),
zq 50 (.un .neg 49),
zq 8 (.mv 50)]
def c5_11 : C := .reg (some [0, 4, 5, 6, 7]) [zq 51 (.mv 6),
zq 52 (.mv 7),
zq 53 (.mv 8),
zq 54 (.bld (.agg 42 [(.int .i64 0), (.int .i64 0), (.int .i64 0)]) [(0, 52), (1, 53)]),
zq 55 (.iad 48 49 42 5 51),
zw (.st 42 55 54)]
def c5_12 : C := .reg (some [0, 4, 5, 6, 57]) [zq 56 (.mv 7),
zq 57 (.bin .neq 56 (zi 0))]
def c5_13 : C := .reg (some [0, 4, 5, 6]) [zq 58 (.mv 6),
zq 59 (.mv 6),
zq 60 (.bin .add (zi 20) 59),
zq 61 (.iad 48 49 42 5 58),
zq 62 (.fad 42 2 10 61),
zw (.st 10 62 60)]
def c5_14 : C := .reg (some [0, 4, 5, 6]) [zq 63 (.mv 4),
zq 64 (.mv 6),
zq 65 (.bin .add (zi 20) 64),
zq 66 (.mv 0),
zq 67 (.mv 6),
zq 68 (.sad 26 66 67),
zq 69 (.fad 26 2 24 68),
zq 70 (.ld 24 69),
zq 71 (.sad 24 63 65),
zw (.st 24 71 70)]
def c5_15 : C := .reg (some [0, 4, 5, 6]) [zq 29 (.mv 6),
zq 30 (.bin .add 29 (zi 1)),
zq 6 (.mv 30)]
def c5_16 : C := .reg (some [4, 5, 9]) [zq 72 (.bld (.agg 50 (List.replicate 8 (.int .i64 0))) []),
zq 9 (.alloc false (.agg 50 (List.replicate 8 (.int .i64 0)))),
zw (.st 50 9 72)]
def c5_17 : C := .reg (some [4, 5, 9, 10]) [zq 10 (.mv (zi 0))]
def c5_18 : C := .reg (some [4, 5, 9, 10, 74]) [zq 73 (.mv 10),
zq 74 (.bin .lss 73 (zi 8))]
def c5_19 : C := .reg (some [4, 5, 9, 10]) [zq 77 (.mv 10),
zq 78 (.mv 10),
zq 79 (.bin .add (zi 10) 78),
zq 80 (.iad 50 8 10 9 77),
zw (.st 10 80 79)]
def c5_20 : C := .reg (some [4, 5, 9, 10]) [zq 75 (.mv 10),
zq 76 (.bin .add 75 (zi 1)),
zq 10 (.mv 76)]
def c5_21 : C := .reg (some [4, 5, 9, 11]) [zq 82 (.mv 4),
zq 83 (.call (zf f_nvm_Of) [82]),
zq 81 (.mv 83),
zq 84 (.ext 81 0),
zq 85 (.ext 81 1),
zq 11 (.mv 84),
zq 12 (.mv 85)]
def c5_22 : C := .reg (some [5, 9, 11, 13]) [zq 87 (.mv 4),
zq 88 (.call (zf f_steadfastref03_Of) [87]),
zq 86 (.mv 88),
zq 89 (.ext 86 0),
zq 90 (.ext 86 1),
zq 13 (.mv 89),
zq 14 (.mv 90)]
def c5_23 : C := .reg (some [5, 9, 11, 13, 92]) [zq 91 (.mv 11),
zq 92 (.eq false 1 91 (.k .nilp))]
def c5_24 : C := .reg (some [2, 3]) [zq 2 (.mv (.k .nilp)),
zq 3 (.mv (.k .nilp))]
def c5_25 : C := .reg (some [5, 9, 13, 15]) [zq 94 (.mv 11),
zq 95 (.ld 48 5),
zq 96 (.ld 50 9),
zq 97 (.call (zf f_objects_Of) [94, (zi 10), 95, 96]),
zq 93 (.mv 97),
zq 98 (.ext 93 0),
zq 99 (.ext 93 1),
zq 15 (.mv 98),
zq 16 (.mv 99)]
def c5_26 : C := .reg (some [15, 17]) [zq 101 (.mv 13),
zq 102 (.ld 48 5),
zq 103 (.ld 50 9),
zq 104 (.call (zf f_steadfastref10_Of) [101, (zi 10), 102, 103]),
zq 100 (.mv 104),
zq 105 (.ext 100 0),
zq 106 (.ext 100 1),
zq 17 (.mv 105),
zq 18 (.mv 106)]
def c5_27 : C := .reg (some [2, 3]) [zq 107 (.mv 15),
zq 108 (.mv 17),
zq 2 (.mv 107),
zq 3 (.mv 108)]
def b_steadfastlaw18_made_0 : C :=
    .seq (.seq (c5_4) (
    .cond (.t 28) (
      .skip) (
      .exit 0))) (
    .seq (.block 1 (
      .seq (c5_5) (
      .seq (.seq (c5_6) (
      .cond (.t 38) (
        c5_7) (
        .skip))) (
      .seq (c5_8) (
      .seq (.seq (c5_9) (
      .cond (.t 48) (
        c5_10) (
        .skip))) (
      .seq (c5_11) (
      .seq (c5_12) (
      .cond (.t 57) (
        .seq (c5_13) (
        c5_14)) (
        .skip))))))))) (
    c5_15))
def b_steadfastlaw18_made_1 : C :=
    .seq (.seq (c5_18) (
    .cond (.t 74) (
      .skip) (
      .exit 2))) (
    .seq (.block 3 (
      c5_19)) (
    c5_20))
/-- steadfast/steadfastlaw18.made -/
@[go_sem] def fc_steadfastlaw18_made : Fc := ⟨1,
  .seq (c5_0) (
  .seq (c5_1) (
  .seq (c5_2) (
  .seq (.seq (c5_3) (
  .block 0 (
    .loop [0, 4, 5, 6] b_steadfastlaw18_made_0))) (
  .seq (c5_16) (
  .seq (.seq (c5_17) (
  .block 2 (
    .loop [4, 5, 9, 10] b_steadfastlaw18_made_1))) (
  .seq (c5_21) (
  .seq (c5_22) (
  .seq (.seq (c5_23) (
  .cond (.t 92) (
    .seq (c5_24) (
    .ret)) (
    .skip))) (
  .seq (c5_25) (
  .seq (c5_26) (
  .seq (c5_27) (
  .ret)))))))))))),
  [.t 2, .t 3]⟩
def c6_0 : C := .reg (some [0, 1, 2]) [zq 6 (.mv (zi 0)),
zq 7 (.mv (.k (.int .u64 0))),
zq 8 (.mv (zi 0))]
def c6_1 : C := .reg (some [0, 1, 2]) [zq 9 (.mv (zi 0))]
def c6_2 : C := .reg (some [0, 2, 8]) [zq 10 (.mv 1),
zq 11 (.call (zf f_bank_by) [10]),
zq 8 (.mv 11)]
def c6_3 : C := .reg (some [0, 2, 8, 13]) [zq 12 (.mv 8),
zq 13 (.bin .neq 12 (zi 0))]
def c6_4 : C := .reg (some [2, 6, 8, 9]) [zq 15 (.mv 0),
zq 16 (.mv 2),
zq 17 (.call (zf f_objects_Store_Next) [15, 16]),
zq 14 (.mv 17),
zq 18 (.ext 14 0),
zq 19 (.ext 14 1),
zq 20 (.ext 14 2),
zq 6 (.mv 18),
zq 9 (.mv 19),
zq 8 (.mv 20)]
def c6_5 : C := .reg (some [2, 6, 8, 9, 22]) [zq 21 (.mv 8),
zq 22 (.bin .neq 21 (zi 0))]
def c6_6 : C := .reg (some [6, 7, 8]) [zq 24 (.mv 2),
zq 25 (.mv 6),
zq 26 (.mv 9),
zq 27 (.bld (.agg 40 [(.int .i64 0), (.int .i64 0), (.int .i64 0), (.int .i64 0), (.int .i64 0)]) [(0, 24), (1, (zi 15)), (2, 25), (3, 26)]),
zq 28 (.call (zf f_caps_Word) [27]),
zq 23 (.mv 28),
zq 29 (.ext 23 0),
zq 30 (.ext 23 1),
zq 7 (.mv 29),
zq 8 (.mv 30)]
def c6_7 : C := .reg (some [6, 7, 8]) [zq 31 (.mv 6),
zq 32 (.mv 7),
zq 33 (.mv 8),
zq 6 (.mv 31),
zq 7 (.mv 32),
zq 8 (.mv 33)]
def c6_8 : C := .reg (some [6, 7, 8]) [zq 34 (.mv 8),
zq 6 (.mv (zi 0)),
zq 7 (.mv (.k (.int .u64 0))),
zq 8 (.mv 34)]
/-- steadfast/bank.Make -/
@[go_sem] def fc_bank_Make : Fc := ⟨3,
  .seq (c6_0) (
  .scope (
    .seq (.block 1000000 (
      .seq (c6_1) (
      .seq (.seq (c6_2) (
      .seq (c6_3) (
      .cond (.t 13) (
        .exit 1000000) (
        .skip)))) (
      .seq (.seq (c6_4) (
      .seq (c6_5) (
      .cond (.t 22) (
        .exit 1000000) (
        .skip)))) (
      .seq (c6_6) (
      .seq (.seq (c6_7) (
      .ret)) (
      .skip))))))) (
    .seq (c6_8) (
    .ret)))),
  [.t 6, .t 7, .t 8]⟩
def c7_0 : C := .reg (some [0, 1, 2]) [zq 6 (.mv (zi 0)),
zq 7 (.mv (.k (.int .u64 0))),
zq 8 (.mv (zi 0))]
def c7_1 : C := .reg (some [0, 2, 9]) [zq 14 (.mv 1),
zq 15 (.call (zf f_steadfastref07_May) [14, (zi 5), (zi 2)]),
zq 9 (.mv 15)]
def c7_2 : C := .reg (some [0, 2, 9, 17]) [zq 16 (.mv 9),
zq 17 (.bin .neq 16 (zi 0))]
def c7_3 : C := .reg (some [6, 7, 8]) [zq 18 (.mv 9),
zq 6 (.mv (zi 0)),
zq 7 (.mv (.k (.int .u64 0))),
zq 8 (.mv 18)]
def c7_4 : C := .reg (some [2, 9, 10, 11]) [zq 20 (.mv 0),
zq 21 (.mv 2),
zq 22 (.call (zf f_steadfastref10_Store_Next) [20, 21]),
zq 19 (.mv 22),
zq 23 (.ext 19 0),
zq 24 (.ext 19 1),
zq 25 (.ext 19 2),
zq 10 (.mv 23),
zq 11 (.mv 24),
zq 9 (.mv 25)]
def c7_5 : C := .reg (some [2, 9, 10, 11, 27]) [zq 26 (.mv 9),
zq 27 (.bin .neq 26 (zi 0))]
def c7_6 : C := .reg (some [6, 7, 8]) [zq 28 (.mv 9),
zq 6 (.mv (zi 0)),
zq 7 (.mv (.k (.int .u64 0))),
zq 8 (.mv 28)]
def c7_7 : C := .reg (some [10, 12]) [zq 30 (.mv 2),
zq 31 (.mv 10),
zq 32 (.mv 11),
zq 33 (.bld (.agg 40 [(.int .i64 0), (.int .i64 0), (.int .i64 0), (.int .i64 0), (.int .i64 0)]) [(0, 30), (1, (zi 15)), (2, 31), (3, 32)]),
zq 34 (.call (zf f_steadfastref07_Word) [33]),
zq 29 (.mv 34),
zq 35 (.ext 29 0),
zq 36 (.ext 29 1),
zq 12 (.mv 35),
zq 13 (.mv 36)]
def c7_8 : C := .reg (some [6, 7, 8]) [zq 37 (.mv 10),
zq 38 (.mv 12),
zq 6 (.mv 37),
zq 7 (.mv 38),
zq 8 (.mv (zi 0))]
/-- steadfast/steadfastref18.Make -/
@[go_sem] def fc_steadfastref18_Make : Fc := ⟨3,
  .seq (c7_0) (
  .seq (c7_1) (
  .seq (.seq (c7_2) (
  .cond (.t 17) (
    .seq (c7_3) (
    .ret)) (
    .skip))) (
  .seq (c7_4) (
  .seq (.seq (c7_5) (
  .cond (.t 27) (
    .seq (c7_6) (
    .ret)) (
    .skip))) (
  .seq (c7_7) (
  .seq (c7_8) (
  .ret))))))),
  [.t 6, .t 7, .t 8]⟩
def c8_0 : C := .reg (some [0, 1]) [zq 4 (.mv (zi 0)),
zq 5 (.mv (zi 0))]
def c8_1 : C := .reg (some [0, 1, 6, 7]) [zq 10 (.mv 1),
zq 11 (.call (zf f_caps_Of) [10]),
zq 9 (.mv 11),
zq 12 (.ext 9 0),
zq 13 (.ext 9 1),
zq 6 (.alloc false (.agg 40 [(.int .i64 0), (.int .i64 0), (.int .i64 0), (.int .i64 0), (.int .i64 0)])),
zw (.st 40 6 12),
zq 7 (.mv 13)]
def c8_2 : C := .reg (some [0, 1, 6, 15]) [zq 14 (.mv 7),
zq 15 (.un .not 14)]
def c8_3 : C := .reg (some [4, 5]) [zq 4 (.mv (zi 0)),
zq 5 (.mv (zi 31))]
def c8_4 : C := .regd (some [6, 8]) [zq 16 (.mv 0),
zq 17 (.fad 40 2 10 6),
zq 18 (.ld 10 17),
zq 19 (.nilc 16),
zq 20 (.fad 43 2 48 19),
zq 21 (.iad 48 49 42 20 18),
zq 22 (.ld 42 21),
zq 23 (.fad 40 2 10 6),
zq 24 (.ld 10 23),
zq 25 (.mv 1),
zq 26 (.pcall (zf f_entry_Names) [22, 24, 25]),
zq 8 (.mv 26)]
def c8_5 : C := .reg (some [6, 8, 28]) [zq 27 (.mv 8),
zq 28 (.bin .neq 27 (zi 0))]
def c8_6 : C := .reg (some [4, 5]) [zq 29 (.mv 8),
zq 4 (.mv (zi 0)),
zq 5 (.mv 29)]
def c8_7 : C := .reg (some [4, 5]) [zq 30 (.fad 40 2 10 6),
zq 31 (.ld 10 30),
zq 4 (.mv 31),
zq 5 (.mv (zi 0))]
/-- (*steadfast/objects.Store).Names -/
@[go_sem] def fc_objects_Store_Names : Fc := ⟨2,
  .seq (c8_0) (
  .seq (c8_1) (
  .seq (.seq (c8_2) (
  .cond (.t 15) (
    .seq (c8_3) (
    .ret)) (
    .skip))) (
  .seq (.seq (c8_4) (
  .seq (c8_5) (
  .cond (.t 28) (
    .seq (c8_6) (
    .ret)) (
    .skip)))) (
  .seq (c8_7) (
  .ret))))),
  [.t 4, .t 5]⟩
def c9_0 : C := .reg (some [0, 1]) [zq 4 (.mv (zi 0)),
zq 5 (.mv (zi 0))]
def c9_1 : C := .reg (some [0, 1, 6, 7, 8]) [zq 11 (.mv 0),
zq 12 (.mv 1),
zq 13 (.call (zf f_objects_Store_Next) [11, 12]),
zq 10 (.mv 13),
zq 14 (.ext 10 0),
zq 15 (.ext 10 1),
zq 16 (.ext 10 2),
zq 6 (.mv 14),
zq 7 (.mv 15),
zq 8 (.mv 16)]
def c9_2 : C := .reg (some [0, 1, 6, 7, 8, 18]) [zq 17 (.mv 8),
zq 18 (.bin .neq 17 (zi 0))]
def c9_3 : C := .reg (some [4, 5]) [zq 19 (.mv 8),
zq 4 (.mv (zi 0)),
zq 5 (.mv 19)]
def c9_4 : C := .reg (some [0, 1, 6, 7, 8, 9]) [zq 21 (.mv 0),
zq 22 (.bld (.agg 24 (List.replicate 8 (.int .u64 0))) []),
zq 23 (.call (zf f_objects_Store_lay) [21, 22]),
zq 20 (.mv 23),
zq 24 (.ext 20 0),
zq 25 (.ext 20 1),
zq 9 (.mv 24),
zq 8 (.mv 25)]
def c9_5 : C := .reg (some [0, 1, 6, 7, 8, 9, 27]) [zq 26 (.mv 8),
zq 27 (.bin .neq 26 (zi 0))]
def c9_6 : C := .reg (some [4, 5]) [zq 28 (.mv 8),
zq 4 (.mv (zi 0)),
zq 5 (.mv 28)]
def c9_7 : C := .reg (some [6]) [zq 29 (.mv 0),
zq 30 (.mv 6),
zq 31 (.mv 1),
zq 32 (.mv 7),
zq 33 (.mv 9),
zq 34 (.bld (.agg 42 [(.int .i64 0), (.int .i64 0), (.int .i64 0)]) [(0, 31), (1, 32), (2, 33)]),
zq 35 (.nilc 29),
zq 36 (.fad 43 2 48 35),
zq 37 (.iad 48 49 42 36 30),
zw (.st 42 37 34)]
def c9_8 : C := .reg (some [4, 5]) [zq 38 (.mv 6),
zq 4 (.mv 38),
zq 5 (.mv (zi 0))]
/-- (*steadfast/objects.Store).Make -/
@[go_sem] def fc_objects_Store_Make : Fc := ⟨2,
  .seq (c9_0) (
  .seq (c9_1) (
  .seq (.seq (c9_2) (
  .cond (.t 18) (
    .seq (c9_3) (
    .ret)) (
    .skip))) (
  .seq (c9_4) (
  .seq (.seq (c9_5) (
  .cond (.t 27) (
    .seq (c9_6) (
    .ret)) (
    .skip))) (
  .seq (c9_7) (
  .seq (c9_8) (
  .ret))))))),
  [.t 4, .t 5]⟩
def c10_0 : C := .reg (some [0, 1, 2]) [zq 6 (.mv (zi 0))]
def c10_1 : C := .reg (some [1, 2, 7, 8]) [zq 10 (.mv 0),
zq 11 (.call (zf f_caps_Of) [10]),
zq 9 (.mv 11),
zq 12 (.ext 9 0),
zq 13 (.ext 9 1),
zq 7 (.alloc false (.agg 40 [(.int .i64 0), (.int .i64 0), (.int .i64 0), (.int .i64 0), (.int .i64 0)])),
zw (.st 40 7 12),
zq 8 (.mv 13)]
def c10_2 : C := .reg (some [1, 2, 7, 14]) [zq 15 (.mv 8),
zq 16 (.un .not 15),
zq 14 (.mv 16)]
def c10_3 : C := .reg (some [2, 7, 14]) [zq 17 (.fad 40 0 10 7),
zq 18 (.ld 10 17),
zq 19 (.mv 1),
zq 20 (.bin .neq 18 19),
zq 14 (.mv 20)]
def c10_4 : C := .reg (some [6]) [zq 6 (.mv (zi 31))]
def c10_5 : C := .reg (some [21]) [zq 22 (.mv 2),
zq 23 (.fad 40 1 10 7),
zq 24 (.ld 10 23),
zq 25 (.bin .andNot 22 24),
zq 26 (.bin .neq 25 (zi 0)),
zq 21 (.mv 26)]
def c10_6 : C := .reg (some [6]) [zq 6 (.mv (zi 32))]
def c10_7 : C := .reg (some [6]) [zq 6 (.mv (zi 0))]
/-- steadfast/caps.May -/
@[go_sem] def fc_caps_May : Fc := ⟨3,
  .seq (c10_0) (
  .seq (c10_1) (
  .seq (.block 0 (
    .seq (.seq (c10_2) (
    .cond (.t 14) (
      .skip) (
      c10_3))) (
    .cond (.t 14) (
      .seq (c10_4) (
      .ret)) (
      .seq (c10_5) (
      .cond (.t 21) (
        .seq (c10_6) (
        .ret)) (
        .skip)))))) (
  .seq (c10_7) (
  .ret)))),
  [.t 6]⟩
def c11_0 : C := .reg (some [1]) [zq 1 (.box false 0),
zq 2 (.mv (.k (.int .u64 0))),
zq 3 (.mv (zi 0))]
def c11_1 : C := .reg (some [1, 53]) [zq 6 (.fad 40 0 10 1),
zq 7 (.ld 10 6),
zq 8 (.bin .lss 7 (zi 1)),
zq 9 (.mv 8),
zg 10 9 false (.fad 40 0 10 1),
zg 11 9 false (.ld 10 10),
zg 12 9 false (.bin .gtr 11 (zi 6)),
zq 13 (.pick 9 (.k (.bool true)) 12),
zq 14 (.mv 13),
zg 15 14 false (.fad 40 1 10 1),
zg 16 14 false (.ld 10 15),
zg 17 14 false (.bin .lss 16 (zi 0)),
zq 18 (.pick 14 (.k (.bool true)) 17),
zq 19 (.mv 18),
zg 20 19 false (.fad 40 1 10 1),
zg 21 19 false (.ld 10 20),
zg 22 19 false (.bin .gtr 21 (zi 15)),
zq 23 (.pick 19 (.k (.bool true)) 22),
zq 24 (.mv 23),
zg 25 24 false (.fad 40 2 10 1),
zg 26 24 false (.ld 10 25),
zg 27 24 false (.bin .lss 26 (zi 0)),
zq 28 (.pick 24 (.k (.bool true)) 27),
zq 29 (.mv 28),
zg 30 29 false (.fad 40 2 10 1),
zg 31 29 false (.ld 10 30),
zg 32 29 false (.bin .geq 31 (zi 49)),
zq 33 (.pick 29 (.k (.bool true)) 32),
zq 34 (.mv 33),
zg 35 34 false (.fad 40 3 10 1),
zg 36 34 false (.ld 10 35),
zg 37 34 false (.bin .lss 36 (zi 0)),
zq 38 (.pick 34 (.k (.bool true)) 37),
zq 39 (.mv 38),
zg 40 39 false (.fad 40 3 10 1),
zg 41 39 false (.ld 10 40),
zg 42 39 false (.bin .gtr 41 (zi 16777215)),
zq 43 (.pick 39 (.k (.bool true)) 42),
zq 44 (.mv 43),
zg 45 44 false (.fad 40 4 10 1),
zg 46 44 false (.ld 10 45),
zg 47 44 false (.bin .lss 46 (zi 0)),
zq 48 (.pick 44 (.k (.bool true)) 47),
zq 49 (.mv 48),
zg 50 49 false (.fad 40 4 10 1),
zg 51 49 false (.ld 10 50),
zg 52 49 false (.bin .gtr 51 (zi 65535)),
zq 53 (.pick 49 (.k (.bool true)) 52)]
def c11_2 : C := .reg (some [2, 3]) [zq 2 (.mv (.k (.int .u64 0))),
zq 3 (.mv (zi 1))]
def c11_3 : C := .reg (some [1, 71]) [zq 54 (.fad 40 0 10 1),
zq 55 (.ld 10 54),
zq 56 (.bin .eql 55 (zi 5)),
zq 57 (.mv 56),
zg 58 57 false (.fad 40 0 10 1),
zg 59 57 false (.ld 10 58),
zg 60 57 false (.bin .eql 59 (zi 6)),
zq 61 (.pick 57 (.k (.bool true)) 60),
zq 62 (.mv 61),
zg 63 62 true (.fad 40 2 10 1),
zg 64 62 true (.ld 10 63),
zg 65 62 true (.bin .neq 64 (zi 0)),
zg 66 62 true (.mv 65),
zg 67 66 false (.fad 40 3 10 1),
zg 68 66 false (.ld 10 67),
zg 69 66 false (.bin .neq 68 (zi 0)),
zg 70 62 true (.pick 66 (.k (.bool true)) 69),
zq 71 (.pick 62 70 (.k (.bool false)))]
def c11_4 : C := .reg (some [2, 3]) [zq 2 (.mv (.k (.int .u64 0))),
zq 3 (.mv (zi 1))]
def c11_5 : C := .reg (some [1, 4]) [zq 73 (.fad 40 0 10 1),
zq 74 (.ld 10 73),
zq 75 (.conv .u64 74),
zq 76 (.call (zf f_steadfastref01_With) [(.k (.int .u64 0)), (zi 0), (zi 4), 75]),
zq 72 (.mv 76),
zq 77 (.ext 72 0),
zq 78 (.ext 72 1),
zq 4 (.mv 77),
zq 5 (.mv 78)]
def c11_6 : C := .reg (some [1, 4]) [zq 80 (.mv 4),
zq 81 (.fad 40 1 10 1),
zq 82 (.ld 10 81),
zq 83 (.conv .u64 82),
zq 84 (.call (zf f_steadfastref01_With) [80, (zi 4), (zi 4), 83]),
zq 79 (.mv 84),
zq 85 (.ext 79 0),
zq 86 (.ext 79 1),
zq 4 (.mv 85)]
def c11_7 : C := .reg (some [1, 4]) [zq 88 (.mv 4),
zq 89 (.fad 40 2 10 1),
zq 90 (.ld 10 89),
zq 91 (.conv .u64 90),
zq 92 (.call (zf f_steadfastref01_With) [88, (zi 8), (zi 16), 91]),
zq 87 (.mv 92),
zq 93 (.ext 87 0),
zq 94 (.ext 87 1),
zq 4 (.mv 93)]
def c11_8 : C := .reg (some [1, 4]) [zq 96 (.mv 4),
zq 97 (.fad 40 3 10 1),
zq 98 (.ld 10 97),
zq 99 (.conv .u64 98),
zq 100 (.call (zf f_steadfastref01_With) [96, (zi 24), (zi 24), 99]),
zq 95 (.mv 100),
zq 101 (.ext 95 0),
zq 102 (.ext 95 1),
zq 4 (.mv 101)]
def c11_9 : C := .reg (some [4]) [zq 104 (.mv 4),
zq 105 (.fad 40 4 10 1),
zq 106 (.ld 10 105),
zq 107 (.conv .u64 106),
zq 108 (.call (zf f_steadfastref01_With) [104, (zi 48), (zi 16), 107]),
zq 103 (.mv 108),
zq 109 (.ext 103 0),
zq 110 (.ext 103 1),
zq 4 (.mv 109)]
def c11_10 : C := .reg (some [2, 3]) [zq 111 (.mv 4),
zq 2 (.mv 111),
zq 3 (.mv (zi 0))]
/-- steadfast/steadfastref07.Word -/
@[go_sem] def fc_steadfastref07_Word : Fc := ⟨1,
  .seq (c11_0) (
  .seq (.seq (c11_1) (
  .cond (.t 53) (
    .seq (c11_2) (
    .ret)) (
    .skip))) (
  .seq (.seq (c11_3) (
  .cond (.t 71) (
    .seq (c11_4) (
    .ret)) (
    .skip))) (
  .seq (c11_5) (
  .seq (c11_6) (
  .seq (c11_7) (
  .seq (c11_8) (
  .seq (c11_9) (
  .seq (c11_10) (
  .ret))))))))),
  [.t 2, .t 3]⟩
def c12_0 : C := .reg (some [0, 1, 2]) [zq 6 (.mv (zi 0)),
zq 7 (.mv (zi 0))]
def c12_1 : C := .reg (some [0, 2, 8]) [zq 11 (.mv 1),
zq 12 (.call (zf f_bank_by) [11]),
zq 8 (.mv 12)]
def c12_2 : C := .reg (some [0, 2, 8, 14]) [zq 13 (.mv 8),
zq 14 (.bin .neq 13 (zi 0))]
def c12_3 : C := .reg (some [6, 7]) [zq 15 (.mv 8),
zq 6 (.mv (zi 0)),
zq 7 (.mv 15)]
def c12_4 : C := .reg (some [0, 2, 9, 10]) [zq 17 (.mv 2),
zq 18 (.call (zf f_caps_Of) [17]),
zq 16 (.mv 18),
zq 19 (.ext 16 0),
zq 20 (.ext 16 1),
zq 9 (.alloc false (.agg 40 [(.int .i64 0), (.int .i64 0), (.int .i64 0), (.int .i64 0), (.int .i64 0)])),
zw (.st 40 9 19),
zq 10 (.mv 20)]
def c12_5 : C := .reg (some [0, 2, 9, 21]) [zq 22 (.mv 10),
zq 23 (.un .not 22),
zq 21 (.mv 23)]
def c12_6 : C := .reg (some [0, 2, 9, 21]) [zq 24 (.fad 40 0 10 9),
zq 25 (.ld 10 24),
zq 26 (.bin .neq 25 (zi 1)),
zq 27 (.mv 26),
zg 28 27 true (.fad 40 0 10 9),
zg 29 27 true (.ld 10 28),
zg 30 27 true (.bin .neq 29 (zi 2)),
zq 31 (.pick 27 30 (.k (.bool false))),
zq 21 (.mv 31)]
def c12_7 : C := .reg (some [6, 7]) [zq 6 (.mv (zi 0)),
zq 7 (.mv (zi 31))]
def c12_8 : C := .reg (some [0, 2, 32]) [zq 33 (.fad 40 1 10 9),
zq 34 (.ld 10 33),
zq 35 (.bin .and 34 (zi 2)),
zq 36 (.bin .eql 35 (zi 0)),
zq 32 (.mv 36)]
def c12_9 : C := .reg (some [6, 7]) [zq 6 (.mv (zi 0)),
zq 7 (.mv (zi 32))]
def c12_10 : C := .reg (some [6, 7]) [zq 37 (.mv 0),
zq 38 (.mv 2),
zq 39 (.call (zf f_objects_Store_Names) [37, 38]),
zq 40 (.ext 39 0),
zq 41 (.ext 39 1),
zq 6 (.mv 40),
zq 7 (.mv 41)]
/-- steadfast/bank.End -/
@[go_sem] def fc_bank_End : Fc := ⟨3,
  .seq (c12_0) (
  .seq (.seq (c12_1) (
  .seq (c12_2) (
  .cond (.t 14) (
    .seq (c12_3) (
    .ret)) (
    .skip)))) (
  .seq (c12_4) (
  .seq (.block 0 (
    .seq (.seq (c12_5) (
    .cond (.t 21) (
      .skip) (
      c12_6))) (
    .cond (.t 21) (
      .seq (c12_7) (
      .ret)) (
      .seq (c12_8) (
      .cond (.t 32) (
        .seq (c12_9) (
        .ret)) (
        .skip)))))) (
  .seq (c12_10) (
  .ret))))),
  [.t 6, .t 7]⟩
def c13_0 : C := .reg (some [0]) [zq 2 (.mv (.k .nilp)),
zq 3 (.mv (zi 0))]
def c13_1 : C := .reg (some [0, 4, 5]) [zq 9 (.mv 0),
zq 10 (.len false 9),
zq 11 (.call (zf f_nvm_New) [10]),
zq 8 (.mv 11),
zq 12 (.ext 8 0),
zq 13 (.ext 8 1),
zq 4 (.mv 12),
zq 5 (.mv 13)]
def c13_2 : C := .reg (some [0, 4, 5, 15]) [zq 14 (.mv 5),
zq 15 (.bin .neq 14 (zi 0))]
def c13_3 : C := .reg (some [2, 3]) [zq 16 (.mv 5),
zq 2 (.mv (.k .nilp)),
zq 3 (.mv 16)]
def c13_4 : C := .reg (some [4, 17, 18, 19]) [zq 17 (.mv 0),
zq 18 (.len false 17),
zq 19 (.mv (zi 0))]
def c13_5 : C := .reg (some [4, 17, 18, 19, 20]) [zq 20 (.bin .lss 19 18)]
def c13_6 : C := .reg (some [4, 6, 7, 17, 18, 19]) [zq 21 (.mv 19),
zq 22 (.sad 24 17 19),
zq 23 (.ld 24 22),
zq 7 (.alloc false (.agg 24 (List.replicate 8 (.int .u64 0)))),
zq 6 (.mv 21),
zw (.st 24 7 23)]
def c13_7 : C := .regd (some [4, 17, 18, 19]) [zq 24 (.mv 4),
zq 25 (.nilc 24),
zq 26 (.fad 59 0 1 25),
zq 27 (.ld 1 26),
zq 28 (.mv 6),
zq 29 (.mv 4),
zq 30 (.nilc 29),
zq 31 (.fad 59 0 1 30),
zq 32 (.ld 1 31),
zq 33 (.mv 6),
zq 34 (.ld 24 7),
zq 35 (.ld 24 7),
zq 36 (.sad 55 27 28),
zq 37 (.fad 55 0 24 36),
zw (.sta 24 37 34 [7]),
zq 38 (.sad 55 32 33),
zq 39 (.fad 55 1 24 38),
zw (.st 24 39 35)]
def c13_8 : C := .reg (some [4, 17, 18, 19]) [zq 40 (.bin .add 19 (zi 1)),
zq 19 (.mv 40)]
def c13_9 : C := .reg (some [2, 3]) [zq 41 (.mv 4),
zq 2 (.mv 41),
zq 3 (.mv (zi 0))]
def b_nvm_Of_0 : C :=
    .seq (c13_5) (
    .seq (.cond (.t 20) (
      .skip) (
      .exit 0)) (
    .seq (.block 1 (
      .seq (c13_6) (
      c13_7))) (
    c13_8)))
/-- steadfast/nvm.Of -/
@[go_sem] def fc_nvm_Of : Fc := ⟨1,
  .seq (c13_0) (
  .seq (c13_1) (
  .seq (.seq (c13_2) (
  .cond (.t 15) (
    .seq (c13_3) (
    .ret)) (
    .skip))) (
  .seq (.seq (c13_4) (
  .block 0 (
    .loop [4, 17, 18, 19] b_nvm_Of_0))) (
  .seq (c13_9) (
  .ret))))),
  [.t 2, .t 3]⟩
def c14_0 : C := .reg (some [0]) [zq 2 (.mv (.k .nilp)),
zq 3 (.mv (zi 0))]
def c14_1 : C := .reg (some [0, 11]) [zq 4 (.mv 0),
zq 5 (.len false 4),
zq 6 (.bin .lss 5 (zi 64)),
zq 7 (.mv 6),
zg 8 7 false (.mv 0),
zg 9 7 false (.len false 8),
zg 10 7 false (.bin .gtr 9 (zi 1024)),
zq 11 (.pick 7 (.k (.bool true)) 10)]
def c14_2 : C := .reg (some [2, 3]) [zq 2 (.mv (.k .nilp)),
zq 3 (.mv (zi 1))]
def c14_3 : C := .regd (some [2, 3]) [zq 12 (.bsl true 58 24 (.agg 24 (List.replicate 8 (.int .u64 0))) 0 []),
zq 13 (.mv 0),
zq 14 (.app true 58 24 12 13),
zq 15 (.mv 0),
zq 16 (.len false 15),
zq 17 (.mksl true 53 1 .nils 16 16),
zq 18 (.bld (.agg 33 [.nils, .nils, (.bool false), (.int .i64 0), (.int .i64 0)]) [(0, 14), (1, 17), (3, (zi (-1)))]),
zq 19 (.box true 18),
zq 2 (.mv 19),
zq 3 (.mv (zi 0))]
/-- steadfast/steadfastref03.Of -/
@[go_sem] def fc_steadfastref03_Of : Fc := ⟨1,
  .seq (c14_0) (
  .seq (.seq (c14_1) (
  .cond (.t 11) (
    .seq (c14_2) (
    .ret)) (
    .skip))) (
  .seq (c14_3) (
  .ret))),
  [.t 2, .t 3]⟩
def c15_0 : C := .reg (some [0, 1, 6, 7]) [zq 6 (.box false 2),
zq 7 (.box false 3),
zq 8 (.mv (.k .nilp)),
zq 9 (.mv (zi 0))]
def c15_1 : C := .reg (some [0, 6, 7, 10, 11]) [zq 18 (.mv 1),
zq 19 (.mv 0),
zq 20 (.call (zf f_nvm_Memory_Lines) [19]),
zq 21 (.call (zf f_frames_New) [18, 20]),
zq 17 (.mv 21),
zq 22 (.ext 17 0),
zq 23 (.ext 17 1),
zq 10 (.mv 22),
zq 11 (.mv 23)]
def c15_2 : C := .reg (some [0, 6, 7, 10, 11, 25]) [zq 24 (.mv 11),
zq 25 (.bin .neq 24 (zi 0))]
def c15_3 : C := .reg (some [8, 9]) [zq 26 (.mv 11),
zq 8 (.mv (.k .nilp)),
zq 9 (.mv 26)]
def c15_4 : C := .reg (some [6, 7, 10, 12]) [zq 27 (.mv 0),
zq 28 (.mv 10),
zq 29 (.ld 48 6),
zq 30 (.ld 48 6),
zq 31 (.ld 50 7),
zq 32 (.bld (.agg 43 [.nilp, .nilp, (.agg 48 (List.replicate 49 (.agg 42 [(.int .i64 0), (.int .i64 0), (.int .i64 0)]))), (.agg 48 (List.replicate 49 (.agg 42 [(.int .i64 0), (.int .i64 0), (.int .i64 0)]))), (.agg 50 (List.replicate 8 (.int .i64 0))), (.agg 48 (List.replicate 49 (.agg 42 [(.int .i64 0), (.int .i64 0), (.int .i64 0)]))), (.bool false), (.agg 82 (List.replicate 1024 (.bool false)))]) [(0, 27), (1, 28), (2, 29), (3, 30), (4, 31)]),
zq 33 (.box true 32),
zq 12 (.mv 33)]
def c15_5 : C := .reg (some [7, 10, 12, 34, 35]) [zq 34 (.ld 48 6),
zq 35 (.mv (zi 0))]
def c15_6 : C := .reg (some [7, 10, 12, 34, 35, 36]) [zq 36 (.bin .lss 35 (zi 49))]
def c15_7 : C := .reg (some [7, 10, 12, 14, 34, 35]) [zq 37 (.idx 48 49 34 35),
zq 14 (.alloc false (.agg 42 [(.int .i64 0), (.int .i64 0), (.int .i64 0)])),
zw (.st 42 14 37)]
def c15_8 : C := .reg (some [7, 10, 12, 34, 35, 47]) [zq 38 (.fad 42 0 10 14),
zq 39 (.ld 10 38),
zq 40 (.bin .neq 39 (zi 0)),
zq 41 (.mv 40),
zg 42 41 true (.mv 10),
zg 43 41 true (.fad 42 2 10 14),
zg 44 41 true (.ld 10 43),
zg 45 41 true (.call (zf f_frames_Frames_Take) [42, 44]),
zg 46 41 true (.bin .neq 45 (zi 0)),
zq 47 (.pick 41 46 (.k (.bool false)))]
def c15_9 : C := .reg (some [8, 9]) [zq 8 (.mv (.k .nilp)),
zq 9 (.mv (zi 21))]
def c15_10 : C := .reg (some [7, 10, 12, 34, 35]) [zq 48 (.bin .add 35 (zi 1)),
zq 35 (.mv 48)]
def c15_11 : C := .reg (some [10, 12, 49, 50]) [zq 49 (.ld 50 7),
zq 50 (.mv (zi 0))]
def c15_12 : C := .reg (some [10, 12, 49, 50, 51]) [zq 51 (.bin .lss 50 (zi 8))]
def c15_13 : C := .reg (some [10, 12, 16, 49, 50]) [zq 52 (.idx 50 8 49 50),
zq 16 (.mv 52)]
def c15_14 : C := .reg (some [10, 12, 49, 50, 56]) [zq 53 (.mv 10),
zq 54 (.mv 16),
zq 55 (.call (zf f_frames_Frames_Take) [53, 54]),
zq 56 (.bin .neq 55 (zi 0))]
def c15_15 : C := .reg (some [8, 9]) [zq 8 (.mv (.k .nilp)),
zq 9 (.mv (zi 21))]
def c15_16 : C := .reg (some [10, 12, 49, 50]) [zq 57 (.bin .add 50 (zi 1)),
zq 50 (.mv 57)]
def c15_17 : C := .reg (some [12]) [zq 58 (.mv 12),
zq 59 (.call (zf f_objects_Store_share) [58])]
def c15_18 : C := .reg (some [8, 9]) [zq 60 (.mv 12),
zq 8 (.mv 60),
zq 9 (.mv (zi 0))]
def b_objects_Of_0 : C :=
    .seq (c15_6) (
    .seq (.cond (.t 36) (
      .skip) (
      .exit 0)) (
    .seq (.block 1 (
      .seq (c15_7) (
      .seq (c15_8) (
      .cond (.t 47) (
        .seq (c15_9) (
        .ret)) (
        .skip))))) (
    c15_10)))
def b_objects_Of_1 : C :=
    .seq (c15_12) (
    .seq (.cond (.t 51) (
      .skip) (
      .exit 2)) (
    .seq (.block 3 (
      .seq (c15_13) (
      .seq (c15_14) (
      .cond (.t 56) (
        .seq (c15_15) (
        .ret)) (
        .skip))))) (
    c15_16)))
/-- steadfast/objects.Of -/
@[go_sem] def fc_objects_Of : Fc := ⟨4,
  .seq (c15_0) (
  .seq (c15_1) (
  .seq (.seq (c15_2) (
  .cond (.t 25) (
    .seq (c15_3) (
    .ret)) (
    .skip))) (
  .seq (c15_4) (
  .seq (.seq (c15_5) (
  .block 0 (
    .loop [7, 10, 12, 34, 35] b_objects_Of_0))) (
  .seq (.seq (c15_11) (
  .block 2 (
    .loop [10, 12, 49, 50] b_objects_Of_1))) (
  .seq (c15_17) (
  .seq (c15_18) (
  .ret)))))))),
  [.t 8, .t 9]⟩
def c16_0 : C := .reg (some [0, 1, 6, 7]) [zq 6 (.box false 2),
zq 7 (.box false 3),
zq 8 (.mv (.k .nilp)),
zq 9 (.mv (zi 0))]
def c16_1 : C := .reg (some [0, 6, 7, 10, 11]) [zq 15 (.mv 1),
zq 16 (.mv 0),
zq 17 (.nilc 16),
zq 18 (.fad 33 0 1 17),
zq 19 (.ld 1 18),
zq 20 (.len false 19),
zq 21 (.call (zf f_steadfastref04_New) [15, 20]),
zq 14 (.mv 21),
zq 22 (.ext 14 0),
zq 23 (.ext 14 1),
zq 10 (.mv 22),
zq 11 (.mv 23)]
def c16_2 : C := .reg (some [0, 6, 7, 10, 25]) [zq 24 (.mv 11),
zq 25 (.bin .neq 24 (zi 0))]
def c16_3 : C := .reg (some [8, 9]) [zq 8 (.mv (.k .nilp)),
zq 9 (.mv (zi 1))]
def c16_4 : C := .regd (some [0, 6, 7, 10, 12]) [zq 26 (.ld 48 6),
zq 27 (.callw (zf f_steadfastref10_lines) [26] 7),
zq 28 (.slarr 50 8 10 7 none none none),
zq 29 (.app false 38 10 27 28),
zq 12 (.mv 29)]
def c16_5 : C := .reg (some [0, 6, 7, 10, 12, 13]) [zq 13 (.mv (zi 0))]
def c16_6 : C := .reg (some [0, 6, 7, 10, 12, 13, 33]) [zq 30 (.mv 13),
zq 31 (.mv 12),
zq 32 (.len false 31),
zq 33 (.bin .lss 30 32)]
def c16_7 : C := .reg (some [0, 6, 7, 10, 12, 13, 42]) [zq 36 (.mv 10),
zq 37 (.mv 12),
zq 38 (.mv 13),
zq 39 (.sad 10 37 38),
zq 40 (.ld 10 39),
zq 41 (.call (zf f_steadfastref04_Frames_Take) [36, 40]),
zq 42 (.bin .neq 41 (zi 0))]
def c16_8 : C := .reg (some [8, 9]) [zq 8 (.mv (.k .nilp)),
zq 9 (.mv (zi 21))]
def c16_9 : C := .reg (some [0, 6, 7, 10, 12, 13]) [zq 34 (.mv 13),
zq 35 (.bin .add 34 (zi 1)),
zq 13 (.mv 35)]
def c16_10 : C := .reg (some [8, 9]) [zq 43 (.mv 0),
zq 44 (.mv 10),
zq 45 (.ld 48 6),
zq 46 (.ld 48 6),
zq 47 (.ld 50 7),
zq 48 (.bld (.agg 31 [.nilp, .nilp, (.agg 48 (List.replicate 49 (.agg 42 [(.int .i64 0), (.int .i64 0), (.int .i64 0)]))), (.agg 48 (List.replicate 49 (.agg 42 [(.int .i64 0), (.int .i64 0), (.int .i64 0)]))), (.agg 50 (List.replicate 8 (.int .i64 0))), (.agg 48 (List.replicate 49 (.agg 42 [(.int .i64 0), (.int .i64 0), (.int .i64 0)]))), (.bool false)]) [(0, 43), (1, 44), (2, 45), (3, 46), (4, 47)]),
zq 49 (.box true 48),
zq 8 (.mv 49),
zq 9 (.mv (zi 0))]
def b_steadfastref10_Of_0 : C :=
    .seq (.seq (c16_6) (
    .cond (.t 33) (
      .skip) (
      .exit 0))) (
    .seq (.block 1 (
      .seq (c16_7) (
      .cond (.t 42) (
        .seq (c16_8) (
        .ret)) (
        .skip)))) (
    c16_9))
/-- steadfast/steadfastref10.Of -/
@[go_sem] def fc_steadfastref10_Of : Fc := ⟨4,
  .seq (c16_0) (
  .seq (c16_1) (
  .seq (.seq (c16_2) (
  .cond (.t 25) (
    .seq (c16_3) (
    .ret)) (
    .skip))) (
  .seq (c16_4) (
  .seq (.seq (c16_5) (
  .block 0 (
    .loop [0, 6, 7, 10, 12, 13] b_steadfastref10_Of_0))) (
  .seq (c16_10) (
  .ret)))))),
  [.t 8, .t 9]⟩
def c17_0 : C := .reg (some [0]) [zq 2 (.mv (zi 0))]
def c17_1 : C := .reg (some [2]) [zq 3 (.mv 0),
zq 4 (.call (zf f_caps_May) [3, (zi 5), (zi 2)]),
zq 2 (.mv 4)]
/-- steadfast/bank.by -/
@[go_sem] def fc_bank_by : Fc := ⟨1,
  .seq (c17_0) (
  .seq (c17_1) (
  .ret)),
  [.t 2]⟩
def c18_0 : C := .reg (some [0, 1]) [zq 4 (.mv (zi 0)),
zq 5 (.mv (zi 0)),
zq 6 (.mv (zi 0))]
def c18_1 : C := .reg (some [0, 9]) [zq 9 (.mv 1)]
def c18_2 : C := .reg (some [0, 9, 10]) [zq 11 (.bin .eql 9 (zi 1)),
zq 10 (.mv 11)]
def c18_3 : C := .reg (some [0, 9, 10]) [zq 12 (.bin .eql 9 (zi 2)),
zq 10 (.mv 12)]
def c18_4 : C := .reg (some [0, 10]) [zq 13 (.bin .eql 9 (zi 4)),
zq 10 (.mv 13)]
def c18_5 : C := .reg (some [4, 5, 6]) [zq 4 (.mv (zi 0)),
zq 5 (.mv (zi 0)),
zq 6 (.mv (zi 1))]
def c18_6 : C := .reg (some [17, 18]) [zq 14 (.mv 0),
zq 15 (.nilc 14),
zq 16 (.fad 43 2 48 15),
zq 17 (.ld 48 16),
zq 18 (.mv (zi 0))]
def c18_7 : C := .reg (some [17, 18, 19]) [zq 19 (.bin .lss 18 (zi 49))]
def c18_8 : C := .reg (some [7, 8, 17, 18]) [zq 20 (.mv 18),
zq 21 (.idx 48 49 17 18),
zq 8 (.alloc false (.agg 42 [(.int .i64 0), (.int .i64 0), (.int .i64 0)])),
zq 7 (.mv 20),
zw (.st 42 8 21)]
def c18_9 : C := .reg (some [7, 8, 17, 18, 23]) [zq 22 (.ld 42 8),
zq 23 (.call (zf f_entry_Open) [22])]
def c18_10 : C := .regd (some [4, 5, 6]) [zq 24 (.mv 7),
zq 25 (.fad 42 1 10 8),
zq 26 (.ld 10 25),
zq 4 (.mv 24),
zq 5 (.mv 26),
zq 6 (.mv (zi 0))]
def c18_11 : C := .reg (some [17, 18]) [zq 27 (.bin .add 18 (zi 1)),
zq 18 (.mv 27)]
def c18_12 : C := .reg (some [4, 5, 6]) [zq 4 (.mv (zi 0)),
zq 5 (.mv (zi 0)),
zq 6 (.mv (zi 34))]
def b_objects_Store_Next_0 : C :=
    .seq (c18_7) (
    .seq (.cond (.t 19) (
      .skip) (
      .exit 1)) (
    .seq (.block 2 (
      .seq (c18_8) (
      .seq (c18_9) (
      .cond (.t 23) (
        .seq (c18_10) (
        .ret)) (
        .skip))))) (
    c18_11)))
/-- (*steadfast/objects.Store).Next -/
@[go_sem] def fc_objects_Store_Next : Fc := ⟨2,
  .seq (c18_0) (
  .seq (.seq (c18_1) (
  .block 0 (
    .seq (.seq (c18_2) (
    .cond (.t 10) (
      .skip) (
      .seq (c18_3) (
      .cond (.t 10) (
        .skip) (
        c18_4))))) (
    .cond (.t 10) (
      .skip) (
      .seq (c18_5) (
      .ret)))))) (
  .seq (.seq (c18_6) (
  .block 1 (
    .loop [17, 18] b_objects_Store_Next_0))) (
  .seq (c18_12) (
  .ret)))),
  [.t 4, .t 5, .t 6]⟩
def c19_0 : C := .reg (some [1]) [zq 1 (.box false 0),
zq 2 (.mv (.k (.int .u64 0))),
zq 3 (.mv (zi 0))]
def c19_1 : C := .reg (some [1, 6]) [zq 4 (.ld 40 1),
zq 5 (.call (zf f_caps_may) [4]),
zq 6 (.un .not 5)]
def c19_2 : C := .reg (some [2, 3]) [zq 2 (.mv (.k (.int .u64 0))),
zq 3 (.mv (zi 1))]
def c19_3 : C := .reg (some [2, 3]) [zq 7 (.fad 40 0 10 1),
zq 8 (.ld 10 7),
zq 9 (.conv .u64 8),
zq 10 (.fad 40 1 10 1),
zq 11 (.ld 10 10),
zq 12 (.conv .u64 11),
zq 13 (.bin .shl 12 (.k (.int .u64 4))),
zq 14 (.bin .or 9 13),
zq 15 (.fad 40 2 10 1),
zq 16 (.ld 10 15),
zq 17 (.conv .u64 16),
zq 18 (.bin .shl 17 (.k (.int .u64 8))),
zq 19 (.bin .or 14 18),
zq 20 (.fad 40 3 10 1),
zq 21 (.ld 10 20),
zq 22 (.conv .u64 21),
zq 23 (.bin .shl 22 (.k (.int .u64 24))),
zq 24 (.bin .or 19 23),
zq 25 (.fad 40 4 10 1),
zq 26 (.ld 10 25),
zq 27 (.conv .u64 26),
zq 28 (.bin .shl 27 (.k (.int .u64 48))),
zq 29 (.bin .or 24 28),
zq 2 (.mv 29),
zq 3 (.mv (zi 0))]
/-- steadfast/caps.Word -/
@[go_sem] def fc_caps_Word : Fc := ⟨1,
  .seq (c19_0) (
  .seq (.seq (c19_1) (
  .cond (.t 6) (
    .seq (c19_2) (
    .ret)) (
    .skip))) (
  .seq (c19_3) (
  .ret))),
  [.t 2, .t 3]⟩
def c20_0 : C := .reg (some [0, 1, 2]) [zq 6 (.mv (zi 0))]
def c20_1 : C := .reg (some [1, 2, 7, 8]) [zq 10 (.mv 0),
zq 11 (.call (zf f_steadfastref07_Of) [10]),
zq 9 (.mv 11),
zq 12 (.ext 9 0),
zq 13 (.ext 9 1),
zq 7 (.alloc false (.agg 40 [(.int .i64 0), (.int .i64 0), (.int .i64 0), (.int .i64 0), (.int .i64 0)])),
zw (.st 40 7 12),
zq 8 (.mv 13)]
def c20_2 : C := .reg (some [2, 7, 21]) [zq 14 (.mv 8),
zq 15 (.un .not 14),
zq 16 (.mv 15),
zg 17 16 false (.fad 40 0 10 7),
zg 18 16 false (.ld 10 17),
zg 19 16 false (.mv 1),
zg 20 16 false (.bin .neq 18 19),
zq 21 (.pick 16 (.k (.bool true)) 20)]
def c20_3 : C := .reg (some [6]) [zq 6 (.mv (zi 31))]
def c20_4 : C := .reg (some [27]) [zq 22 (.fad 40 1 10 7),
zq 23 (.ld 10 22),
zq 24 (.mv 2),
zq 25 (.bin .and 23 24),
zq 26 (.mv 2),
zq 27 (.bin .neq 25 26)]
def c20_5 : C := .reg (some [6]) [zq 6 (.mv (zi 32))]
def c20_6 : C := .reg (some [6]) [zq 6 (.mv (zi 0))]
/-- steadfast/steadfastref07.May -/
@[go_sem] def fc_steadfastref07_May : Fc := ⟨3,
  .seq (c20_0) (
  .seq (c20_1) (
  .seq (.seq (c20_2) (
  .cond (.t 21) (
    .seq (c20_3) (
    .ret)) (
    .skip))) (
  .seq (.seq (c20_4) (
  .cond (.t 27) (
    .seq (c20_5) (
    .ret)) (
    .skip))) (
  .seq (c20_6) (
  .ret))))),
  [.t 6]⟩
def c21_0 : C := .reg (some [0, 1]) [zq 4 (.mv (zi 0)),
zq 5 (.mv (zi 0)),
zq 6 (.mv (zi 0))]
def c21_1 : C := .reg (some [0, 17]) [zq 8 (.mv 1),
zq 9 (.bin .neq 8 (zi 1)),
zq 10 (.mv 9),
zg 11 10 true (.mv 1),
zg 12 10 true (.bin .neq 11 (zi 2)),
zq 13 (.pick 10 12 (.k (.bool false))),
zq 14 (.mv 13),
zg 15 14 true (.mv 1),
zg 16 14 true (.bin .neq 15 (zi 4)),
zq 17 (.pick 14 16 (.k (.bool false)))]
def c21_2 : C := .reg (some [4, 5, 6]) [zq 4 (.mv (zi 0)),
zq 5 (.mv (zi 0)),
zq 6 (.mv (zi 1))]
def c21_3 : C := .reg (some [0, 7]) [zq 7 (.mv (zi 0))]
def c21_4 : C := .reg (some [0, 7, 19]) [zq 18 (.mv 7),
zq 19 (.bin .lss 18 (zi 49))]
def c21_5 : C := .reg (some [0, 7, 28]) [zq 22 (.mv 0),
zq 23 (.mv 7),
zq 24 (.nilc 22),
zq 25 (.fad 31 2 48 24),
zq 26 (.iad 48 49 42 25 23),
zq 27 (.ld 42 26),
zq 28 (.call (zf f_steadfastref08_Open) [27])]
def c21_6 : C := .regd (some [4, 5, 6]) [zq 29 (.mv 7),
zq 30 (.mv 0),
zq 31 (.mv 7),
zq 32 (.nilc 30),
zq 33 (.fad 31 2 48 32),
zq 34 (.iad 48 49 42 33 31),
zq 35 (.fad 42 1 10 34),
zq 36 (.ld 10 35),
zq 4 (.mv 29),
zq 5 (.mv 36),
zq 6 (.mv (zi 0))]
def c21_7 : C := .reg (some [0, 7]) [zq 20 (.mv 7),
zq 21 (.bin .add 20 (zi 1)),
zq 7 (.mv 21)]
def c21_8 : C := .reg (some [4, 5, 6]) [zq 4 (.mv (zi 0)),
zq 5 (.mv (zi 0)),
zq 6 (.mv (zi 34))]
def b_steadfastref10_Store_Next_0 : C :=
    .seq (.seq (c21_4) (
    .cond (.t 19) (
      .skip) (
      .exit 0))) (
    .seq (.block 1 (
      .seq (c21_5) (
      .cond (.t 28) (
        .seq (c21_6) (
        .ret)) (
        .skip)))) (
    c21_7))
/-- (*steadfast/steadfastref10.Store).Next -/
@[go_sem] def fc_steadfastref10_Store_Next : Fc := ⟨2,
  .seq (c21_0) (
  .seq (.seq (c21_1) (
  .cond (.t 17) (
    .seq (c21_2) (
    .ret)) (
    .skip))) (
  .seq (.seq (c21_3) (
  .block 0 (
    .loop [0, 7] b_steadfastref10_Store_Next_0))) (
  .seq (c21_8) (
  .ret)))),
  [.t 4, .t 5, .t 6]⟩
def c22_0 : C := .reg (some [0, 2]) [zq 2 (.alloc false (.agg 40 [(.int .i64 0), (.int .i64 0), (.int .i64 0), (.int .i64 0), (.int .i64 0)])),
zq 3 (.mv (.k (.bool false)))]
def c22_1 : C := .reg (some [2, 4]) [zq 5 (.mv 0),
zq 6 (.bin .and 5 (.k (.int .u64 15))),
zq 7 (.conv .i64 6),
zq 8 (.mv 0),
zq 9 (.bin .shr 8 (.k (.int .u64 4))),
zq 10 (.bin .and 9 (.k (.int .u64 15))),
zq 11 (.conv .i64 10),
zq 12 (.mv 0),
zq 13 (.bin .shr 12 (.k (.int .u64 8))),
zq 14 (.bin .and 13 (.k (.int .u64 65535))),
zq 15 (.conv .i64 14),
zq 16 (.mv 0),
zq 17 (.bin .shr 16 (.k (.int .u64 24))),
zq 18 (.bin .and 17 (.k (.int .u64 16777215))),
zq 19 (.conv .i64 18),
zq 20 (.mv 0),
zq 21 (.bin .shr 20 (.k (.int .u64 48))),
zq 22 (.conv .i64 21),
zq 23 (.bld (.agg 40 [(.int .i64 0), (.int .i64 0), (.int .i64 0), (.int .i64 0), (.int .i64 0)]) [(0, 7), (1, 11), (2, 15), (3, 19), (4, 22)]),
zq 4 (.alloc false (.agg 40 [(.int .i64 0), (.int .i64 0), (.int .i64 0), (.int .i64 0), (.int .i64 0)])),
zw (.st 40 4 23)]
def c22_2 : C := .reg (some [2, 4, 26]) [zq 24 (.ld 40 4),
zq 25 (.call (zf f_caps_may) [24]),
zq 26 (.un .not 25)]
def c22_3 : C := .reg (some [2, 3]) [zq 27 (.bld (.agg 40 [(.int .i64 0), (.int .i64 0), (.int .i64 0), (.int .i64 0), (.int .i64 0)]) []),
zw (.st 40 2 27),
zq 3 (.mv (.k (.bool false)))]
def c22_4 : C := .reg (some [2, 3]) [zq 28 (.ld 40 4),
zw (.st 40 2 28),
zq 3 (.mv (.k (.bool true)))]
/-- steadfast/caps.Of -/
@[go_sem] def fc_caps_Of : Fc := ⟨1,
  .seq (c22_0) (
  .seq (c22_1) (
  .seq (.seq (c22_2) (
  .cond (.t 26) (
    .seq (c22_3) (
    .ret)) (
    .skip))) (
  .seq (c22_4) (
  .ret)))),
  [.cell 2 40, .t 3]⟩
def c23_0 : C := .reg (some [1, 2, 3]) [zq 3 (.box false 0),
zq 6 (.mv (zi 0))]
def c23_1 : C := .reg (some [1, 3, 7, 8]) [zq 10 (.mv 2),
zq 11 (.call (zf f_caps_Of) [10]),
zq 9 (.mv 11),
zq 12 (.ext 9 0),
zq 13 (.ext 9 1),
zq 7 (.alloc false (.agg 40 [(.int .i64 0), (.int .i64 0), (.int .i64 0), (.int .i64 0), (.int .i64 0)])),
zw (.st 40 7 12),
zq 8 (.mv 13)]
def c23_2 : C := .reg (some [1, 3, 7, 14]) [zq 15 (.mv 8),
zq 16 (.un .not 15),
zq 14 (.mv 16)]
def c23_3 : C := .reg (some [1, 3, 7, 14]) [zq 17 (.fad 40 0 10 7),
zq 18 (.ld 10 17),
zq 19 (.bin .gtr 18 (zi 4)),
zq 14 (.mv 19)]
def c23_4 : C := .reg (some [6]) [zq 6 (.mv (zi 31))]
def c23_5 : C := .reg (some [3, 7, 20]) [zq 21 (.fad 40 2 10 7),
zq 22 (.ld 10 21),
zq 23 (.mv 1),
zq 24 (.bin .neq 22 23),
zq 20 (.mv 24)]
def c23_6 : C := .reg (some [6]) [zq 6 (.mv (zi 30))]
def c23_7 : C := .reg (some [3, 7, 25]) [zq 26 (.fad 40 3 10 7),
zq 27 (.ld 10 26),
zq 28 (.fad 42 1 10 3),
zq 29 (.ld 10 28),
zq 30 (.bin .neq 27 29),
zq 25 (.mv 30)]
def c23_8 : C := .reg (some [6]) [zq 6 (.mv (zi 33))]
def c23_9 : C := .reg (some [3, 7, 31]) [zq 32 (.fad 42 0 10 3),
zq 33 (.ld 10 32),
zq 34 (.bin .eql 33 (zi 0)),
zq 31 (.mv 34)]
def c23_10 : C := .reg (some [6]) [zq 6 (.mv (zi 30))]
def c23_11 : C := .reg (some [35]) [zq 36 (.fad 40 0 10 7),
zq 37 (.ld 10 36),
zq 38 (.fad 42 0 10 3),
zq 39 (.ld 10 38),
zq 40 (.bin .neq 37 39),
zq 35 (.mv 40)]
def c23_12 : C := .reg (some [6]) [zq 6 (.mv (zi 31))]
def c23_13 : C := .reg (some [6]) [zq 6 (.mv (zi 0))]
/-- steadfast/entry.Names -/
@[go_sem] def fc_entry_Names : Fc := ⟨3,
  .seq (c23_0) (
  .seq (c23_1) (
  .seq (.block 0 (
    .seq (.seq (c23_2) (
    .cond (.t 14) (
      .skip) (
      c23_3))) (
    .cond (.t 14) (
      .seq (c23_4) (
      .ret)) (
      .seq (c23_5) (
      .cond (.t 20) (
        .seq (c23_6) (
        .ret)) (
        .seq (c23_7) (
        .cond (.t 25) (
          .seq (c23_8) (
          .ret)) (
          .seq (c23_9) (
          .cond (.t 31) (
            .seq (c23_10) (
            .ret)) (
            .seq (c23_11) (
            .cond (.t 35) (
              .seq (c23_12) (
              .ret)) (
              .skip)))))))))))) (
  .seq (c23_13) (
  .ret)))),
  [.t 6]⟩
def c24_0 : C := .reg (some [0, 3]) [zq 3 (.box false 1),
zq 4 (.mv (zi 0)),
zq 5 (.mv (zi 0))]
def c24_1 : C := .reg (some [0, 3, 6, 7]) [zq 12 (.mv 0),
zq 13 (.nilc 12),
zq 14 (.fad 43 1 1 13),
zq 15 (.ld 1 14),
zq 16 (.call (zf f_frames_Frames_Alloc) [15]),
zq 11 (.mv 16),
zq 17 (.ext 11 0),
zq 18 (.ext 11 1),
zq 6 (.mv 17),
zq 7 (.mv 18)]
def c24_2 : C := .reg (some [0, 3, 6, 7, 20]) [zq 19 (.mv 7),
zq 20 (.bin .neq 19 (zi 0))]
def c24_3 : C := .reg (some [4, 5]) [zq 21 (.mv 7),
zq 4 (.mv (zi 0)),
zq 5 (.mv 21)]
def c24_4 : C := .reg (some [0, 6, 22, 23]) [zq 22 (.ld 24 3),
zq 23 (.mv (zi 0))]
def c24_5 : C := .reg (some [0, 6, 22, 23, 24]) [zq 24 (.bin .lss 23 (zi 8))]
def c24_6 : C := .reg (some [0, 6, 8, 9, 22, 23]) [zq 25 (.mv 23),
zq 26 (.idx 24 8 22 23),
zq 8 (.mv 25),
zq 9 (.mv 26)]
def c24_7 : C := .reg (some [0, 6, 10, 22, 23]) [zq 27 (.mv 0),
zq 28 (.nilc 27),
zq 29 (.fad 43 0 1 28),
zq 30 (.ld 1 29),
zq 31 (.mv 6),
zq 32 (.mv 8),
zq 33 (.mv 9),
zq 34 (.call (zf f_nvm_Memory_Store) [30, 31, 32, 33]),
zq 10 (.mv 34)]
def c24_8 : C := .reg (some [0, 6, 10, 22, 23, 36]) [zq 35 (.mv 10),
zq 36 (.bin .neq 35 (zi 0))]
def c24_9 : C := .reg (some [4, 5]) [zq 37 (.mv 10),
zq 4 (.mv (zi 0)),
zq 5 (.mv 37)]
def c24_10 : C := .reg (some [0, 6, 22, 23]) [zq 38 (.bin .add 23 (zi 1)),
zq 23 (.mv 38)]
def c24_11 : C := .reg (some [4, 5]) [zq 39 (.mv 6),
zq 4 (.mv 39),
zq 5 (.mv (zi 0))]
def b_objects_Store_lay_0 : C :=
    .seq (c24_5) (
    .seq (.cond (.t 24) (
      .skip) (
      .exit 0)) (
    .seq (.block 1 (
      .seq (c24_6) (
      .seq (c24_7) (
      .seq (c24_8) (
      .cond (.t 36) (
        .seq (c24_9) (
        .ret)) (
        .skip)))))) (
    c24_10)))
/-- (*steadfast/objects.Store).lay -/
@[go_sem] def fc_objects_Store_lay : Fc := ⟨2,
  .seq (c24_0) (
  .seq (c24_1) (
  .seq (.seq (c24_2) (
  .cond (.t 20) (
    .seq (c24_3) (
    .ret)) (
    .skip))) (
  .seq (.seq (c24_4) (
  .block 0 (
    .loop [0, 6, 22, 23] b_objects_Store_lay_0))) (
  .seq (c24_11) (
  .ret))))),
  [.t 4, .t 5]⟩
def c25_0 : C := .reg (some [0, 1, 2, 3]) [zq 8 (.mv (.k (.int .u64 0))),
zq 9 (.mv (zi 0))]
def c25_1 : C := .reg (some [0, 1, 2, 3, 15]) [zq 12 (.mv 1),
zq 13 (.mv 2),
zq 14 (.call (zf f_steadfastref01_is) [12, 13]),
zq 15 (.un .not 14)]
def c25_2 : C := .reg (some [8, 9]) [zq 8 (.mv (.k (.int .u64 0))),
zq 9 (.mv (zi 1))]
def c25_3 : C := .reg (some [0, 1, 2, 3, 10]) [zq 16 (.mv 2),
zq 10 (.mv 16)]
def c25_4 : C := .reg (some [0, 1, 2, 3, 10, 18]) [zq 17 (.mv 10),
zq 18 (.bin .lss 17 (zi 64))]
def c25_5 : C := .reg (some [0, 1, 2, 3, 10, 24]) [zq 21 (.mv 3),
zq 22 (.mv 10),
zq 23 (.call (zf f_steadfastref01_bit) [21, 22]),
zq 24 (.bin .eql 23 (.k (.int .u64 1)))]
def c25_6 : C := .reg (some [8, 9]) [zq 8 (.mv (.k (.int .u64 0))),
zq 9 (.mv (zi 2))]
def c25_7 : C := .reg (some [0, 1, 2, 3, 10]) [zq 19 (.mv 10),
zq 20 (.bin .add 19 (zi 1)),
zq 10 (.mv 20)]
def c25_8 : C := .reg (some [0, 1, 2, 3, 11]) [zq 11 (.mv (zi 0))]
def c25_9 : C := .reg (some [0, 1, 2, 3, 11, 27]) [zq 25 (.mv 11),
zq 26 (.mv 2),
zq 27 (.bin .lss 25 26)]
def c25_10 : C := .reg (some [0, 1, 2, 3, 11, 38]) [zq 30 (.mv 3),
zq 31 (.mv 11),
zq 32 (.call (zf f_steadfastref01_bit) [30, 31]),
zq 33 (.mv 0),
zq 34 (.mv 1),
zq 35 (.mv 11),
zq 36 (.bin .add 34 35),
zq 37 (.call (zf f_steadfastref01_bit) [33, 36]),
zq 38 (.bin .neq 32 37)]
def c25_11 : C := .reg (some [0, 1, 2, 3, 11]) [zq 39 (.mv 0),
zq 40 (.mv 1),
zq 41 (.mv 11),
zq 42 (.bin .add 40 41),
zq 43 (.bin .shl (.k (.int .u64 1)) 42),
zq 44 (.bin .xor 39 43),
zq 0 (.mv 44)]
def c25_12 : C := .reg (some [0, 1, 2, 3, 11]) [zq 28 (.mv 11),
zq 29 (.bin .add 28 (zi 1)),
zq 11 (.mv 29)]
def c25_13 : C := .reg (some [8, 9]) [zq 45 (.mv 0),
zq 8 (.mv 45),
zq 9 (.mv (zi 0))]
def b_steadfastref01_With_0 : C :=
    .seq (.seq (c25_4) (
    .cond (.t 18) (
      .skip) (
      .exit 0))) (
    .seq (.block 1 (
      .seq (c25_5) (
      .cond (.t 24) (
        .seq (c25_6) (
        .ret)) (
        .skip)))) (
    c25_7))
def b_steadfastref01_With_1 : C :=
    .seq (.seq (c25_9) (
    .cond (.t 27) (
      .skip) (
      .exit 2))) (
    .seq (.block 3 (
      .seq (c25_10) (
      .cond (.t 38) (
        c25_11) (
        .skip)))) (
    c25_12))
/-- steadfast/steadfastref01.With -/
@[go_sem] def fc_steadfastref01_With : Fc := ⟨4,
  .seq (c25_0) (
  .seq (.seq (c25_1) (
  .cond (.t 15) (
    .seq (c25_2) (
    .ret)) (
    .skip))) (
  .seq (.seq (c25_3) (
  .block 0 (
    .loop [0, 1, 2, 3, 10] b_steadfastref01_With_0))) (
  .seq (.seq (c25_8) (
  .block 2 (
    .loop [0, 1, 2, 3, 11] b_steadfastref01_With_1))) (
  .seq (c25_13) (
  .ret))))),
  [.t 8, .t 9]⟩
def c26_0 : C := .reg (some [0]) [zq 2 (.mv (.k .nilp)),
zq 3 (.mv (zi 0))]
def c26_1 : C := .reg (some [0, 9]) [zq 4 (.mv 0),
zq 5 (.bin .lss 4 (zi 64)),
zq 6 (.mv 5),
zg 7 6 false (.mv 0),
zg 8 6 false (.bin .gtr 7 (zi 1024)),
zq 9 (.pick 6 (.k (.bool true)) 8)]
def c26_2 : C := .reg (some [2, 3]) [zq 2 (.mv (.k .nilp)),
zq 3 (.mv (zi 1))]
def c26_3 : C := .reg (some [2, 3]) [zq 10 (.mv 0),
zq 11 (.mksl true 57 55 (.agg 55 [(.agg 24 (List.replicate 8 (.int .u64 0))), (.agg 24 (List.replicate 8 (.int .u64 0))), .nils, (.agg 50 (List.replicate 8 (.int .i64 0)))]) 10 10),
zq 12 (.bld (.agg 59 [.nils, (.bool false), (.bool false), (.int .i64 0), (.int .i64 0)]) [(0, 11)]),
zq 13 (.box true 12),
zq 2 (.mv 13),
zq 3 (.mv (zi 0))]
/-- steadfast/nvm.New -/
@[go_sem] def fc_nvm_New : Fc := ⟨1,
  .seq (c26_0) (
  .seq (.seq (c26_1) (
  .cond (.t 9) (
    .seq (c26_2) (
    .ret)) (
    .skip))) (
  .seq (c26_3) (
  .ret))),
  [.t 2, .t 3]⟩
def c27_0 : C := .reg (some [0, 1]) [zq 4 (.mv (.k .nilp)),
zq 5 (.mv (zi 0))]
def c27_1 : C := .reg (some [0, 1, 18]) [zq 8 (.mv 0),
zq 9 (.bin .lss 8 (zi 0)),
zq 10 (.mv 9),
zg 11 10 false (.mv 0),
zg 12 10 false (.mv 1),
zg 13 10 false (.bin .gtr 11 12),
zq 14 (.pick 10 (.k (.bool true)) 13),
zq 15 (.mv 14),
zg 16 15 false (.mv 1),
zg 17 15 false (.bin .gtr 16 (zi 1024)),
zq 18 (.pick 15 (.k (.bool true)) 17)]
def c27_2 : C := .reg (some [4, 5]) [zq 4 (.mv (.k .nilp)),
zq 5 (.mv (zi 1))]
def c27_3 : C := .reg (some [0, 1, 6]) [zq 19 (.mv 0),
zq 20 (.mv 1),
zq 21 (.bld (.agg 80 [(.int .i64 0), (.int .i64 0), (.agg 78 (List.replicate 16 (.int .u64 0))), (.agg 78 (List.replicate 16 (.int .u64 0)))]) [(0, 19), (1, 20)]),
zq 22 (.box true 21),
zq 6 (.mv 22)]
def c27_4 : C := .reg (some [0, 6, 25, 26]) [zq 23 (.mv 1),
zq 24 (.mv 0),
zq 25 (.bin .sub 23 24),
zq 26 (.mv (zi 0))]
def c27_5 : C := .reg (some [0, 6, 25, 26, 27]) [zq 27 (.bin .lss 26 25)]
def c27_6 : C := .reg (some [0, 6, 7, 25, 26]) [zq 28 (.mv 26),
zq 7 (.mv 28)]
def c27_7 : C := .reg (some [0, 6, 25, 26]) [zq 29 (.mv 6),
zq 30 (.nilc 29),
zq 31 (.fad 80 2 78 30),
zq 32 (.mv 0),
zq 33 (.mv 7),
zq 34 (.bin .add 32 33),
zq 35 (.call (zf f_frames_set_turn) [31, 34])]
def c27_8 : C := .reg (some [0, 6, 25, 26]) [zq 36 (.bin .add 26 (zi 1)),
zq 26 (.mv 36)]
def c27_9 : C := .reg (some [4, 5]) [zq 37 (.mv 6),
zq 4 (.mv 37),
zq 5 (.mv (zi 0))]
def b_frames_New_0 : C :=
    .seq (c27_5) (
    .seq (.cond (.t 27) (
      .skip) (
      .exit 0)) (
    .seq (.block 1 (
      .seq (c27_6) (
      c27_7))) (
    c27_8)))
/-- steadfast/frames.New -/
@[go_sem] def fc_frames_New : Fc := ⟨2,
  .seq (c27_0) (
  .seq (.seq (c27_1) (
  .cond (.t 18) (
    .seq (c27_2) (
    .ret)) (
    .skip))) (
  .seq (c27_3) (
  .seq (.seq (c27_4) (
  .block 0 (
    .loop [0, 6, 25, 26] b_frames_New_0))) (
  .seq (c27_9) (
  .ret))))),
  [.t 4, .t 5]⟩
def c28_0 : C := .reg (some [0]) [zq 2 (.mv (zi 0))]
def c28_1 : C := .reg (some [2]) [zq 3 (.mv 0),
zq 4 (.nilc 3),
zq 5 (.fad 59 0 1 4),
zq 6 (.ld 1 5),
zq 7 (.len false 6),
zq 2 (.mv 7)]
/-- (*steadfast/nvm.Memory).Lines -/
@[go_sem] def fc_nvm_Memory_Lines : Fc := ⟨1,
  .seq (c28_0) (
  .seq (c28_1) (
  .ret)),
  [.t 2]⟩
def c29_0 : C := .reg (some [0, 1]) [zq 4 (.mv (zi 0))]
def c29_1 : C := .reg (some [0, 1, 5]) [zq 6 (.mv 0),
zq 7 (.mv 1),
zq 8 (.call (zf f_frames_Frames_in) [6, 7, (zi 0)]),
zq 5 (.mv 8)]
def c29_2 : C := .reg (some [0, 1, 5, 10]) [zq 9 (.mv 5),
zq 10 (.bin .eql 9 (zi 0))]
def c29_3 : C := .reg (some [5]) [zq 11 (.mv 0),
zq 12 (.nilc 11),
zq 13 (.fad 80 2 78 12),
zq 14 (.mv 1),
zq 15 (.call (zf f_frames_set_turn) [13, 14])]
def c29_4 : C := .reg (some [4]) [zq 16 (.mv 5),
zq 4 (.mv 16)]
/-- (*steadfast/frames.Frames).Take -/
@[go_sem] def fc_frames_Frames_Take : Fc := ⟨2,
  .seq (c29_0) (
  .seq (c29_1) (
  .seq (.seq (c29_2) (
  .cond (.t 10) (
    c29_3) (
    .skip))) (
  .seq (c29_4) (
  .ret)))),
  [.t 4]⟩
def c30_0 : C := .reg (some [0]) [zq 2 (.mv 0),
zq 3 (.bld (.agg 82 (List.replicate 1024 (.bool false))) []),
zq 4 (.nilc 2),
zq 5 (.fad 43 7 82 4),
zw (.st 82 5 3)]
def c30_1 : C := .regd (some [0]) [zq 6 (.mv 0),
zq 7 (.nilc 6),
zq 8 (.fad 43 7 82 7),
zq 9 (.mv 0),
zq 10 (.nilc 9),
zq 11 (.fad 43 3 48 10),
zq 12 (.ld 48 11),
zq 13 (.call (zf f_objects_lines_add) [8, 12])]
def c30_2 : C := .reg (some [0, 17]) [zq 14 (.mv 0),
zq 15 (.nilc 14),
zq 16 (.fad 43 6 0 15),
zq 17 (.ld 0 16)]
def c30_3 : C := .regd (some []) [zq 18 (.mv 0),
zq 19 (.nilc 18),
zq 20 (.fad 43 7 82 19),
zq 21 (.mv 0),
zq 22 (.nilc 21),
zq 23 (.fad 43 5 48 22),
zq 24 (.ld 48 23),
zq 25 (.call (zf f_objects_lines_add) [20, 24])]
/-- (*steadfast/objects.Store).share -/
@[go_sem] def fc_objects_Store_share : Fc := ⟨1,
  .seq (c30_0) (
  .seq (c30_1) (
  .seq (c30_2) (
  .cond (.t 17) (
    c30_3) (
    .skip)))),
  []⟩
def c31_0 : C := .reg (some [0, 1]) [zq 4 (.mv (.k .nilp)),
zq 5 (.mv (zi 0))]
def c31_1 : C := .reg (some [0, 1, 16]) [zq 6 (.mv 0),
zq 7 (.bin .lss 6 (zi 0)),
zq 8 (.mv 7),
zg 9 8 false (.mv 0),
zg 10 8 false (.mv 1),
zg 11 8 false (.bin .gtr 9 10),
zq 12 (.pick 8 (.k (.bool true)) 11),
zq 13 (.mv 12),
zg 14 13 false (.mv 1),
zg 15 13 false (.bin .gtr 14 (zi 1024)),
zq 16 (.pick 13 (.k (.bool true)) 15)]
def c31_2 : C := .reg (some [4, 5]) [zq 4 (.mv (.k .nilp)),
zq 5 (.mv (zi 1))]
def c31_3 : C := .reg (some [4, 5]) [zq 17 (.mv 0),
zq 18 (.mv 1),
zq 19 (.mv 0),
zq 20 (.bin .sub 18 19),
zq 21 (.mksl true 38 10 (.int .i64 0) 20 20),
zq 22 (.bld (.agg 21 [(.int .i64 0), .nils]) [(0, 17), (1, 21)]),
zq 23 (.box true 22),
zq 4 (.mv 23),
zq 5 (.mv (zi 0))]
/-- steadfast/steadfastref04.New -/
@[go_sem] def fc_steadfastref04_New : Fc := ⟨2,
  .seq (c31_0) (
  .seq (.seq (c31_1) (
  .cond (.t 16) (
    .seq (c31_2) (
    .ret)) (
    .skip))) (
  .seq (c31_3) (
  .ret))),
  [.t 4, .t 5]⟩
def c32_0 : C := .reg (some [1]) [zq 1 (.box false 0),
zq 2 (.mv (.k .nils))]
def c32_1 : C := .reg (some [1, 3]) [zq 3 (.mv (.k .nils))]
def c32_2 : C := .reg (some [1, 3, 4]) [zq 4 (.mv (zi 0))]
def c32_3 : C := .reg (some [1, 3, 4, 6]) [zq 5 (.mv 4),
zq 6 (.bin .lss 5 (zi 49))]
def c32_4 : C := .reg (some [1, 3, 4, 13]) [zq 9 (.mv 4),
zq 10 (.iad 48 49 42 1 9),
zq 11 (.fad 42 0 10 10),
zq 12 (.ld 10 11),
zq 13 (.bin .neq 12 (zi 0))]
def c32_5 : C := .reg (some [1, 3, 4]) [zq 14 (.mv 3),
zq 15 (.mv 4),
zq 16 (.iad 48 49 42 1 15),
zq 17 (.fad 42 2 10 16),
zq 18 (.ld 10 17),
zq 19 (.bsl false 38 10 (.int .i64 0) 1 [(0, 18)]),
zq 20 (.app true 38 10 14 19),
zq 3 (.mv 20)]
def c32_6 : C := .reg (some [1, 3, 4]) [zq 7 (.mv 4),
zq 8 (.bin .add 7 (zi 1)),
zq 4 (.mv 8)]
def c32_7 : C := .reg (some [2]) [zq 21 (.mv 3),
zq 2 (.mv 21)]
def b_steadfastref10_lines_0 : C :=
    .seq (.seq (c32_3) (
    .cond (.t 6) (
      .skip) (
      .exit 0))) (
    .seq (.block 1 (
      .seq (c32_4) (
      .cond (.t 13) (
        c32_5) (
        .skip)))) (
    c32_6))
/-- steadfast/steadfastref10.lines -/
@[go_sem] def fc_steadfastref10_lines : Fc := ⟨1,
  .seq (c32_0) (
  .seq (c32_1) (
  .seq (.seq (c32_2) (
  .block 0 (
    .loop [1, 3, 4] b_steadfastref10_lines_0))) (
  .seq (c32_7) (
  .ret)))),
  [.t 2]⟩
def c33_0 : C := .reg (some [0, 1]) [zq 4 (.mv (zi 0))]
def c33_1 : C := .reg (some [4]) [zq 5 (.mv 0),
zq 6 (.mv 1),
zq 7 (.call (zf f_steadfastref04_Frames_turn) [5, 6, (zi 0), (zi 1)]),
zq 4 (.mv 7)]
/-- (*steadfast/steadfastref04.Frames).Take -/
@[go_sem] def fc_steadfastref04_Frames_Take : Fc := ⟨2,
  .seq (c33_0) (
  .seq (c33_1) (
  .ret)),
  [.t 4]⟩
def c34_0 : C := .reg (some [1]) [zq 1 (.box false 0),
zq 2 (.mv (.k (.bool false)))]
def c34_1 : C := .reg (some [2]) [zq 3 (.fad 42 0 10 1),
zq 4 (.ld 10 3),
zq 5 (.bin .eql 4 (zi 0)),
zq 6 (.mv 5),
zg 7 6 true (.fad 42 1 10 1),
zg 8 6 true (.ld 10 7),
zg 9 6 true (.bin .lss 8 (zi 16777215)),
zq 10 (.pick 6 9 (.k (.bool false))),
zq 2 (.mv 10)]
/-- steadfast/entry.Open -/
@[go_sem] def fc_entry_Open : Fc := ⟨1,
  .seq (c34_0) (
  .seq (c34_1) (
  .ret)),
  [.t 2]⟩
def c35_0 : C := .reg (some [1]) [zq 1 (.box false 0),
zq 2 (.mv (.k (.bool false)))]
def c35_1 : C := .reg (some [1, 3]) [zq 4 (.fad 40 0 10 1),
zq 5 (.ld 10 4),
zq 6 (.bin .eql 5 (zi 5)),
zq 7 (.mv 6),
zg 8 7 false (.fad 40 0 10 1),
zg 9 7 false (.ld 10 8),
zg 10 7 false (.bin .eql 9 (zi 6)),
zq 11 (.pick 7 (.k (.bool true)) 10),
zq 3 (.mv 11)]
def c35_2 : C := .reg (some [2]) [zq 12 (.fad 40 0 10 1),
zq 13 (.ld 10 12),
zq 14 (.call (zf f_caps_within) [13, (zi 1), (zi 6)]),
zq 15 (.mv 14),
zg 16 15 true (.fad 40 1 10 1),
zg 17 15 true (.ld 10 16),
zg 18 15 true (.call (zf f_caps_within) [17, (zi 0), (zi 15)]),
zq 19 (.pick 15 18 (.k (.bool false))),
zq 20 (.mv 19),
zg 21 20 true (.fad 40 2 10 1),
zg 22 20 true (.ld 10 21),
zg 23 20 true (.call (zf f_caps_within) [22, (zi 0), (zi 48)]),
zq 24 (.pick 20 23 (.k (.bool false))),
zq 25 (.mv 24),
zg 26 25 true (.fad 40 3 10 1),
zg 27 25 true (.ld 10 26),
zg 28 25 true (.call (zf f_caps_within) [27, (zi 0), (zi 16777215)]),
zq 29 (.pick 25 28 (.k (.bool false))),
zq 30 (.mv 29),
zg 31 30 true (.fad 40 4 10 1),
zg 32 30 true (.ld 10 31),
zg 33 30 true (.call (zf f_caps_within) [32, (zi 0), (zi 65535)]),
zq 34 (.pick 30 33 (.k (.bool false))),
zq 35 (.mv 34),
zg 36 35 true (.mv 3),
zg 37 35 true (.un .not 36),
zg 38 35 true (.mv 37),
zg 39 38 false (.fad 40 2 10 1),
zg 40 38 false (.ld 10 39),
zg 41 38 false (.bin .eql 40 (zi 0)),
zg 42 38 false (.mv 41),
zg 43 42 true (.fad 40 3 10 1),
zg 44 42 true (.ld 10 43),
zg 45 42 true (.bin .eql 44 (zi 0)),
zg 46 38 false (.pick 42 45 (.k (.bool false))),
zg 47 35 true (.pick 38 (.k (.bool true)) 46),
zq 48 (.pick 35 47 (.k (.bool false))),
zq 2 (.mv 48)]
/-- steadfast/caps.may -/
@[go_sem] def fc_caps_may : Fc := ⟨1,
  .seq (c35_0) (
  .seq (c35_1) (
  .seq (c35_2) (
  .ret))),
  [.t 2]⟩
def c36_0 : C := .reg (some [0, 2]) [zq 2 (.alloc false (.agg 40 [(.int .i64 0), (.int .i64 0), (.int .i64 0), (.int .i64 0), (.int .i64 0)])),
zq 3 (.mv (.k (.bool false)))]
def c36_1 : C := .reg (some [0, 2, 4]) [zq 7 (.mv 0),
zq 8 (.call (zf f_steadfastref01_Field) [7, (zi 0), (zi 4)]),
zq 9 (.conv .i64 8),
zq 10 (.mv 0),
zq 11 (.call (zf f_steadfastref01_Field) [10, (zi 4), (zi 4)]),
zq 12 (.conv .i64 11),
zq 13 (.mv 0),
zq 14 (.call (zf f_steadfastref01_Field) [13, (zi 8), (zi 16)]),
zq 15 (.conv .i64 14),
zq 16 (.mv 0),
zq 17 (.call (zf f_steadfastref01_Field) [16, (zi 24), (zi 24)]),
zq 18 (.conv .i64 17),
zq 19 (.mv 0),
zq 20 (.call (zf f_steadfastref01_Field) [19, (zi 48), (zi 16)]),
zq 21 (.conv .i64 20),
zq 22 (.bld (.agg 40 [(.int .i64 0), (.int .i64 0), (.int .i64 0), (.int .i64 0), (.int .i64 0)]) [(0, 9), (1, 12), (2, 15), (3, 18), (4, 21)]),
zq 4 (.alloc false (.agg 40 [(.int .i64 0), (.int .i64 0), (.int .i64 0), (.int .i64 0), (.int .i64 0)])),
zw (.st 40 4 22)]
def c36_2 : C := .reg (some [0, 2, 4, 5, 6]) [zq 24 (.ld 40 4),
zq 25 (.call (zf f_steadfastref07_Word) [24]),
zq 23 (.mv 25),
zq 26 (.ext 23 0),
zq 27 (.ext 23 1),
zq 5 (.mv 26),
zq 6 (.mv 27)]
def c36_3 : C := .reg (some [2, 4, 34]) [zq 28 (.mv 6),
zq 29 (.bin .neq 28 (zi 0)),
zq 30 (.mv 29),
zg 31 30 false (.mv 5),
zg 32 30 false (.mv 0),
zg 33 30 false (.bin .neq 31 32),
zq 34 (.pick 30 (.k (.bool true)) 33)]
def c36_4 : C := .reg (some [2, 3]) [zq 35 (.bld (.agg 40 [(.int .i64 0), (.int .i64 0), (.int .i64 0), (.int .i64 0), (.int .i64 0)]) []),
zw (.st 40 2 35),
zq 3 (.mv (.k (.bool false)))]
def c36_5 : C := .reg (some [2, 3]) [zq 36 (.ld 40 4),
zw (.st 40 2 36),
zq 3 (.mv (.k (.bool true)))]
/-- steadfast/steadfastref07.Of -/
@[go_sem] def fc_steadfastref07_Of : Fc := ⟨1,
  .seq (c36_0) (
  .seq (c36_1) (
  .seq (c36_2) (
  .seq (.seq (c36_3) (
  .cond (.t 34) (
    .seq (c36_4) (
    .ret)) (
    .skip))) (
  .seq (c36_5) (
  .ret))))),
  [.cell 2 40, .t 3]⟩
def c37_0 : C := .reg (some [1]) [zq 1 (.box false 0),
zq 2 (.mv (.k (.bool false)))]
def c37_1 : C := .reg (some [2]) [zq 3 (.fad 42 0 10 1),
zq 4 (.ld 10 3),
zq 5 (.bin .eql 4 (zi 0)),
zq 6 (.mv 5),
zg 7 6 true (.fad 42 1 10 1),
zg 8 6 true (.ld 10 7),
zg 9 6 true (.bin .lss 8 (zi 16777215)),
zq 10 (.pick 6 9 (.k (.bool false))),
zq 2 (.mv 10)]
/-- steadfast/steadfastref08.Open -/
@[go_sem] def fc_steadfastref08_Open : Fc := ⟨1,
  .seq (c37_0) (
  .seq (c37_1) (
  .ret)),
  [.t 2]⟩
def c38_0 : C := .reg (some [0]) [zq 2 (.mv (zi 0)),
zq 3 (.mv (zi 0))]
def c38_1 : C := .reg (some [0, 10, 11]) [zq 7 (.mv 0),
zq 8 (.nilc 7),
zq 9 (.fad 80 2 78 8),
zq 10 (.ld 78 9),
zq 11 (.mv (zi 0))]
def c38_2 : C := .reg (some [0, 10, 11, 12]) [zq 12 (.bin .lss 11 (zi 16))]
def c38_3 : C := .reg (some [0, 4, 5, 10, 11]) [zq 13 (.mv 11),
zq 14 (.idx 78 16 10 11),
zq 4 (.mv 13),
zq 5 (.mv 14)]
def c38_4 : C := .reg (some [0, 4, 5, 10, 11, 16]) [zq 15 (.mv 5),
zq 16 (.bin .neq 15 (.k (.int .u64 0)))]
def c38_5 : C := .reg (some [0, 6]) [zq 17 (.mv 4),
zq 18 (.bin .mul (zi 64) 17),
zq 19 (.mv 5),
zq 20 (.call (zf f_math_bits_TrailingZeros64) [19]),
zq 21 (.bin .add 18 20),
zq 6 (.mv 21)]
def c38_6 : C := .reg (some [6]) [zq 22 (.mv 0),
zq 23 (.nilc 22),
zq 24 (.fad 80 2 78 23),
zq 25 (.mv 6),
zq 26 (.call (zf f_frames_set_turn) [24, 25])]
def c38_7 : C := .reg (some [2, 3]) [zq 27 (.mv 6),
zq 2 (.mv 27),
zq 3 (.mv (zi 0))]
def c38_8 : C := .reg (some [0, 10, 11]) [zq 28 (.bin .add 11 (zi 1)),
zq 11 (.mv 28)]
def c38_9 : C := .reg (some [2, 3]) [zq 2 (.mv (zi 0)),
zq 3 (.mv (zi 10))]
def b_frames_Frames_Alloc_0 : C :=
    .seq (c38_2) (
    .seq (.cond (.t 12) (
      .skip) (
      .exit 0)) (
    .seq (.block 1 (
      .seq (c38_3) (
      .seq (c38_4) (
      .cond (.t 16) (
        .seq (c38_5) (
        .seq (c38_6) (
        .seq (c38_7) (
        .ret)))) (
        .skip))))) (
    c38_8)))
/-- (*steadfast/frames.Frames).Alloc -/
@[go_sem] def fc_frames_Frames_Alloc : Fc := ⟨1,
  .seq (c38_0) (
  .seq (.seq (c38_1) (
  .block 0 (
    .loop [0, 10, 11] b_frames_Frames_Alloc_0))) (
  .seq (c38_9) (
  .ret))),
  [.t 2, .t 3]⟩
def c39_0 : C := .reg (some [0, 1, 2, 3]) [zq 8 (.mv (zi 0))]
def c39_1 : C := .reg (some [0, 2, 3, 9]) [zq 11 (.mv 0),
zq 12 (.mv 1),
zq 13 (.call (zf f_nvm_Memory_at) [11, 12]),
zq 9 (.mv 13)]
def c39_2 : C := .reg (some [0, 2, 3, 9, 23]) [zq 14 (.mv 9),
zq 15 (.eq false 1 14 (.k .nilp)),
zq 16 (.mv 15),
zg 17 16 false (.mv 2),
zg 18 16 false (.bin .lss 17 (zi 0)),
zq 19 (.pick 16 (.k (.bool true)) 18),
zq 20 (.mv 19),
zg 21 20 false (.mv 2),
zg 22 20 false (.bin .geq 21 (zi 8)),
zq 23 (.pick 20 (.k (.bool true)) 22)]
def c39_3 : C := .reg (some [8]) [zq 8 (.mv (zi 1))]
def c39_4 : C := .reg (some [2, 3, 9, 10]) [zq 24 (.mv 0),
zq 25 (.call (zf f_nvm_Memory_step) [24]),
zq 10 (.mv 25)]
def c39_5 : C := .reg (some [2, 3, 9, 10, 27]) [zq 26 (.mv 10),
zq 27 (.bin .neq 26 (zi 0))]
def c39_6 : C := .reg (some [8]) [zq 28 (.mv 10),
zq 8 (.mv 28)]
def c39_7 : C := .reg (some [2, 3, 9]) [zq 29 (.mv 9),
zq 30 (.mv 2),
zq 31 (.mv 3),
zq 32 (.nilc 29),
zq 33 (.fad 55 0 24 32),
zq 34 (.iad 24 8 18 33 30),
zw (.st 18 34 31)]
def c39_8 : C := .reg (some []) [zq 35 (.mv 9),
zq 36 (.mv 9),
zq 37 (.nilc 36),
zq 38 (.fad 55 2 1 37),
zq 39 (.ld 1 38),
zq 40 (.mv 2),
zq 41 (.mv 3),
zq 42 (.bld (.agg 84 [(.int .i64 0), (.int .u64 0)]) [(0, 40), (1, 41)]),
zq 43 (.bsl false 86 84 (.agg 84 [(.int .i64 0), (.int .u64 0)]) 1 [(0, 42)]),
zq 44 (.app true 86 84 39 43),
zq 45 (.nilc 35),
zq 46 (.fad 55 2 1 45),
zw (.st 1 46 44)]
def c39_9 : C := .reg (some [8]) [zq 8 (.mv (zi 0))]
/-- (*steadfast/nvm.Memory).Store -/
@[go_sem] def fc_nvm_Memory_Store : Fc := ⟨4,
  .seq (c39_0) (
  .seq (c39_1) (
  .seq (.seq (c39_2) (
  .cond (.t 23) (
    .seq (c39_3) (
    .ret)) (
    .skip))) (
  .seq (.seq (c39_4) (
  .seq (c39_5) (
  .cond (.t 27) (
    .seq (c39_6) (
    .ret)) (
    .skip)))) (
  .seq (c39_7) (
  .seq (c39_8) (
  .seq (c39_9) (
  .ret))))))),
  [.t 8]⟩
def c40_0 : C := .reg (some [0, 1]) [zq 4 (.mv (.k (.bool false)))]
def c40_1 : C := .reg (some [4]) [zq 5 (.mv 0),
zq 6 (.bin .geq 5 (zi 0)),
zq 7 (.mv 6),
zg 8 7 true (.mv 0),
zg 9 7 true (.bin .leq 8 (zi 63)),
zq 10 (.pick 7 9 (.k (.bool false))),
zq 11 (.mv 10),
zg 12 11 true (.mv 1),
zg 13 11 true (.bin .geq 12 (zi 1)),
zq 14 (.pick 11 13 (.k (.bool false))),
zq 15 (.mv 14),
zg 16 15 true (.mv 1),
zg 17 15 true (.bin .leq 16 (zi 64)),
zq 18 (.pick 15 17 (.k (.bool false))),
zq 19 (.mv 18),
zg 20 19 true (.mv 0),
zg 21 19 true (.mv 1),
zg 22 19 true (.bin .add 20 21),
zg 23 19 true (.bin .leq 22 (zi 64)),
zq 24 (.pick 19 23 (.k (.bool false))),
zq 4 (.mv 24)]
/-- steadfast/steadfastref01.is -/
@[go_sem] def fc_steadfastref01_is : Fc := ⟨2,
  .seq (c40_0) (
  .seq (c40_1) (
  .ret)),
  [.t 4]⟩
def c41_0 : C := .reg (some [0, 1]) [zq 4 (.mv (.k (.int .u64 0)))]
def c41_1 : C := .reg (some [4]) [zq 5 (.mv 0),
zq 6 (.mv 1),
zq 7 (.bin .shr 5 6),
zq 8 (.bin .and 7 (.k (.int .u64 1))),
zq 4 (.mv 8)]
/-- steadfast/steadfastref01.bit -/
@[go_sem] def fc_steadfastref01_bit : Fc := ⟨2,
  .seq (c41_0) (
  .seq (c41_1) (
  .ret)),
  [.t 4]⟩
def c42_0 : C := .regd (some []) [zq 4 (.mv 0),
zq 5 (.mv 1),
zq 6 (.bin .quo 5 (zi 64)),
zq 7 (.nilc 4),
zq 8 (.iad 78 16 18 7 6),
zq 9 (.ld 18 8),
zq 10 (.mv 1),
zq 11 (.bin .rem 10 (zi 64)),
zq 12 (.bin .shl (.k (.int .u64 1)) 11),
zq 13 (.bin .xor 9 12),
zq 14 (.nilc 4),
zq 15 (.iad 78 16 18 14 6),
zw (.st 18 15 13)]
/-- (*steadfast/frames.set).turn -/
@[go_sem] def fc_frames_set_turn : Fc := ⟨2,
  c42_0,
  []⟩
def c43_0 : C := .reg (some [0, 1, 2]) [zq 6 (.mv (zi 0))]
def c43_1 : C := .reg (some [2, 9]) [zq 7 (.mv 0),
zq 8 (.mv 1),
zq 9 (.call (zf f_frames_Frames_State) [7, 8])]
def c43_2 : C := .reg (some [2, 9, 10]) [zq 11 (.bin .eql 9 (zi (-1))),
zq 10 (.mv 11)]
def c43_3 : C := .reg (some [6]) [zq 6 (.mv (zi 1))]
def c43_4 : C := .reg (some [12]) [zq 13 (.mv 2),
zq 14 (.bin .eql 9 13),
zq 12 (.mv 14)]
def c43_5 : C := .reg (some [6]) [zq 6 (.mv (zi 0))]
def c43_6 : C := .reg (some [6]) [zq 6 (.mv (zi 3))]
/-- (*steadfast/frames.Frames).in -/
@[go_sem] def fc_frames_Frames_in : Fc := ⟨3,
  .seq (c43_0) (
  .seq (.seq (c43_1) (
  .block 0 (
    .seq (c43_2) (
    .cond (.t 10) (
      .seq (c43_3) (
      .ret)) (
      .seq (c43_4) (
      .cond (.t 12) (
        .seq (c43_5) (
        .ret)) (
        .skip))))))) (
  .seq (c43_6) (
  .ret))),
  [.t 6]⟩
def c44_0 : C := .reg (some [0, 3]) [zq 3 (.box false 1)]
def c44_1 : C := .reg (some [0, 6, 7]) [zq 6 (.ld 48 3),
zq 7 (.mv (zi 0))]
def c44_2 : C := .reg (some [0, 6, 7, 8]) [zq 8 (.bin .lss 7 (zi 49))]
def c44_3 : C := .reg (some [0, 5, 6, 7]) [zq 9 (.idx 48 49 6 7),
zq 5 (.alloc false (.agg 42 [(.int .i64 0), (.int .i64 0), (.int .i64 0)])),
zw (.st 42 5 9)]
def c44_4 : C := .reg (some [0, 5, 6, 7, 12]) [zq 10 (.fad 42 0 10 5),
zq 11 (.ld 10 10),
zq 12 (.bin .neq 11 (zi 0))]
def c44_5 : C := .regd (some [0, 6, 7]) [zq 13 (.mv 0),
zq 14 (.fad 42 2 10 5),
zq 15 (.ld 10 14),
zq 16 (.nilc 13),
zq 17 (.iad 82 1024 0 16 15),
zw (.st 0 17 (.k (.bool true)))]
def c44_6 : C := .reg (some [0, 6, 7]) [zq 18 (.bin .add 7 (zi 1)),
zq 7 (.mv 18)]
def b_objects_lines_add_0 : C :=
    .seq (c44_2) (
    .seq (.cond (.t 8) (
      .skip) (
      .exit 0)) (
    .seq (.block 1 (
      .seq (c44_3) (
      .seq (c44_4) (
      .cond (.t 12) (
        c44_5) (
        .skip))))) (
    c44_6)))
/-- (*steadfast/objects.lines).add -/
@[go_sem] def fc_objects_lines_add : Fc := ⟨2,
  .seq (c44_0) (
  .seq (c44_1) (
  .block 0 (
    .loop [0, 6, 7] b_objects_lines_add_0))),
  []⟩
def c45_0 : C := .reg (some [0, 1, 2, 3]) [zq 8 (.mv (zi 0))]
def c45_1 : C := .reg (some [0, 1, 2, 3, 9]) [zq 10 (.mv 0),
zq 11 (.mv 1),
zq 12 (.call (zf f_steadfastref04_Frames_State) [10, 11]),
zq 9 (.mv 12)]
def c45_2 : C := .reg (some [0, 1, 2, 3, 9, 14]) [zq 13 (.mv 9),
zq 14 (.bin .lss 13 (zi 0))]
def c45_3 : C := .reg (some [8]) [zq 8 (.mv (zi 1))]
def c45_4 : C := .reg (some [0, 1, 3, 17]) [zq 15 (.mv 9),
zq 16 (.mv 2),
zq 17 (.bin .neq 15 16)]
def c45_5 : C := .reg (some [8]) [zq 8 (.mv (zi 3))]
def c45_6 : C := .regd (some []) [zq 18 (.mv 0),
zq 19 (.nilc 18),
zq 20 (.fad 21 1 1 19),
zq 21 (.ld 1 20),
zq 22 (.mv 1),
zq 23 (.mv 0),
zq 24 (.nilc 23),
zq 25 (.fad 21 0 10 24),
zq 26 (.ld 10 25),
zq 27 (.bin .sub 22 26),
zq 28 (.mv 3),
zq 29 (.sad 10 21 27),
zw (.st 10 29 28)]
def c45_7 : C := .reg (some [8]) [zq 8 (.mv (zi 0))]
/-- (*steadfast/steadfastref04.Frames).turn -/
@[go_sem] def fc_steadfastref04_Frames_turn : Fc := ⟨4,
  .seq (c45_0) (
  .seq (c45_1) (
  .seq (.seq (c45_2) (
  .cond (.t 14) (
    .seq (c45_3) (
    .ret)) (
    .skip))) (
  .seq (.seq (c45_4) (
  .cond (.t 17) (
    .seq (c45_5) (
    .ret)) (
    .skip))) (
  .seq (c45_6) (
  .seq (c45_7) (
  .ret)))))),
  [.t 8]⟩
def c46_0 : C := .reg (some [0, 1, 2]) [zq 6 (.mv (.k (.bool false)))]
def c46_1 : C := .reg (some [6]) [zq 7 (.mv 0),
zq 8 (.mv 1),
zq 9 (.bin .geq 7 8),
zq 10 (.mv 9),
zg 11 10 true (.mv 0),
zg 12 10 true (.mv 2),
zg 13 10 true (.bin .leq 11 12),
zq 14 (.pick 10 13 (.k (.bool false))),
zq 6 (.mv 14)]
/-- steadfast/caps.within -/
@[go_sem] def fc_caps_within : Fc := ⟨3,
  .seq (c46_0) (
  .seq (c46_1) (
  .ret)),
  [.t 6]⟩
def c47_0 : C := .reg (some [0, 1, 2]) [zq 6 (.mv (.k (.int .u64 0)))]
def c47_1 : C := .reg (some [0, 1, 2, 7]) [zq 7 (.mv (.k (.int .u64 0)))]
def c47_2 : C := .reg (some [0, 1, 2, 7, 12]) [zq 9 (.mv 1),
zq 10 (.mv 2),
zq 11 (.call (zf f_steadfastref01_is) [9, 10]),
zq 12 (.un .not 11)]
def c47_3 : C := .reg (some [6]) [zq 6 (.mv (.k (.int .u64 0)))]
def c47_4 : C := .reg (some [0, 1, 2, 7, 8]) [zq 8 (.mv (zi 0))]
def c47_5 : C := .reg (some [0, 1, 2, 7, 8, 15]) [zq 13 (.mv 8),
zq 14 (.mv 2),
zq 15 (.bin .lss 13 14)]
def c47_6 : C := .reg (some [0, 1, 2, 7, 8]) [zq 18 (.mv 7),
zq 19 (.mv 0),
zq 20 (.mv 1),
zq 21 (.mv 8),
zq 22 (.bin .add 20 21),
zq 23 (.call (zf f_steadfastref01_bit) [19, 22]),
zq 24 (.mv 8),
zq 25 (.bin .shl 23 24),
zq 26 (.bin .or 18 25),
zq 7 (.mv 26)]
def c47_7 : C := .reg (some [0, 1, 2, 7, 8]) [zq 16 (.mv 8),
zq 17 (.bin .add 16 (zi 1)),
zq 8 (.mv 17)]
def c47_8 : C := .reg (some [6]) [zq 27 (.mv 7),
zq 6 (.mv 27)]
def b_steadfastref01_Field_0 : C :=
    .seq (.seq (c47_5) (
    .cond (.t 15) (
      .skip) (
      .exit 0))) (
    .seq (.block 1 (
      c47_6)) (
    c47_7))
/-- steadfast/steadfastref01.Field -/
@[go_sem] def fc_steadfastref01_Field : Fc := ⟨3,
  .seq (c47_0) (
  .seq (c47_1) (
  .seq (.seq (c47_2) (
  .cond (.t 12) (
    .seq (c47_3) (
    .ret)) (
    .skip))) (
  .seq (.seq (c47_4) (
  .block 0 (
    .loop [0, 1, 2, 7, 8] b_steadfastref01_Field_0))) (
  .seq (c47_8) (
  .ret))))),
  [.t 6]⟩
def c48_0 : C := .reg (some [0]) [zq 2 (.mv (zi 0))]
def c48_1 : C := .reg (some [0, 4]) [zq 3 (.mv 0),
zq 4 (.bin .eql 3 (.k (.int .u64 0)))]
def c48_2 : C := .reg (some [2]) [zq 2 (.mv (zi 64))]
def c48_3 : C := .reg (some [2]) [zq 5 (.mv 0),
zq 6 (.mv 0),
zq 7 (.un .neg 6),
zq 8 (.bin .and 5 7),
zq 9 (.bin .mul 8 (.k (.int .u64 285870213051353865))),
zq 10 (.bin .shr 9 (.k (.int .u64 58))),
zq 11 (.iad 108 64 12 (.k glob_0) 10),
zq 12 (.ld 12 11),
zq 13 (.conv .i64 12),
zq 2 (.mv 13)]
/-- math/bits.TrailingZeros64 -/
@[go_sem] def fc_math_bits_TrailingZeros64 : Fc := ⟨1,
  .seq (c48_0) (
  .seq (.seq (c48_1) (
  .cond (.t 4) (
    .seq (c48_2) (
    .ret)) (
    .skip))) (
  .seq (c48_3) (
  .ret))),
  [.t 2]⟩
def c49_0 : C := .reg (some [0, 1]) [zq 4 (.mv (.k .nilp))]
def c49_1 : C := .reg (some [0, 1, 15]) [zq 5 (.mv 1),
zq 6 (.bin .lss 5 (zi 0)),
zq 7 (.mv 6),
zg 8 7 false (.mv 1),
zg 9 7 false (.mv 0),
zg 10 7 false (.nilc 9),
zg 11 7 false (.fad 59 0 1 10),
zg 12 7 false (.ld 1 11),
zg 13 7 false (.len false 12),
zg 14 7 false (.bin .geq 8 13),
zq 15 (.pick 7 (.k (.bool true)) 14)]
def c49_2 : C := .reg (some [4]) [zq 4 (.mv (.k .nilp))]
def c49_3 : C := .reg (some [4]) [zq 16 (.mv 0),
zq 17 (.nilc 16),
zq 18 (.fad 59 0 1 17),
zq 19 (.ld 1 18),
zq 20 (.mv 1),
zq 21 (.sad 55 19 20),
zq 4 (.mv 21)]
/-- (*steadfast/nvm.Memory).at -/
@[go_sem] def fc_nvm_Memory_at : Fc := ⟨2,
  .seq (c49_0) (
  .seq (.seq (c49_1) (
  .cond (.t 15) (
    .seq (c49_2) (
    .ret)) (
    .skip))) (
  .seq (c49_3) (
  .ret))),
  [.t 4]⟩
def c50_0 : C := .reg (some [0]) [zq 2 (.mv (zi 0))]
def c50_1 : C := .reg (some [0, 13]) [zq 3 (.mv 0),
zq 4 (.nilc 3),
zq 5 (.fad 59 2 0 4),
zq 6 (.ld 0 5),
zq 7 (.mv 6),
zg 8 7 true (.mv 0),
zg 9 7 true (.nilc 8),
zg 10 7 true (.fad 59 3 10 9),
zg 11 7 true (.ld 10 10),
zg 12 7 true (.bin .eql 11 (zi 0)),
zq 13 (.pick 7 12 (.k (.bool false)))]
def c50_2 : C := .reg (some [0]) [zq 14 (.mv 0),
zq 15 (.nilc 14),
zq 16 (.fad 59 1 0 15),
zw (.st 0 16 (.k (.bool true)))]
def c50_3 : C := .reg (some [0, 20]) [zq 17 (.mv 0),
zq 18 (.nilc 17),
zq 19 (.fad 59 1 0 18),
zq 20 (.ld 0 19)]
def c50_4 : C := .reg (some [2]) [zq 2 (.mv (zi 4))]
def c50_5 : C := .reg (some [0, 24]) [zq 21 (.mv 0),
zq 22 (.nilc 21),
zq 23 (.fad 59 2 0 22),
zq 24 (.ld 0 23)]
def c50_6 : C := .reg (some [0]) [zq 25 (.mv 0),
zq 26 (.nilc 25),
zq 27 (.fad 59 3 10 26),
zq 28 (.ld 10 27),
zq 29 (.bin .sub 28 (zi 1)),
zq 30 (.nilc 25),
zq 31 (.fad 59 3 10 30),
zw (.st 10 31 29)]
def c50_7 : C := .reg (some []) [zq 32 (.mv 0),
zq 33 (.nilc 32),
zq 34 (.fad 59 4 10 33),
zq 35 (.ld 10 34),
zq 36 (.bin .add 35 (zi 1)),
zq 37 (.nilc 32),
zq 38 (.fad 59 4 10 37),
zw (.st 10 38 36)]
def c50_8 : C := .reg (some [2]) [zq 2 (.mv (zi 0))]
/-- (*steadfast/nvm.Memory).step -/
@[go_sem] def fc_nvm_Memory_step : Fc := ⟨1,
  .seq (c50_0) (
  .seq (.seq (c50_1) (
  .cond (.t 13) (
    c50_2) (
    .skip))) (
  .seq (.seq (c50_3) (
  .cond (.t 20) (
    .seq (c50_4) (
    .ret)) (
    .skip))) (
  .seq (.seq (c50_5) (
  .cond (.t 24) (
    c50_6) (
    .skip))) (
  .seq (c50_7) (
  .seq (c50_8) (
  .ret)))))),
  [.t 2]⟩
def c51_0 : C := .reg (some [0, 1]) [zq 4 (.mv (zi 0))]
def c51_1 : C := .reg (some [0, 1, 5]) [zq 6 (.mv 1),
zq 7 (.mv 0),
zq 8 (.nilc 7),
zq 9 (.fad 80 0 10 8),
zq 10 (.ld 10 9),
zq 11 (.bin .lss 6 10),
zq 5 (.mv 11)]
def c51_2 : C := .reg (some [0, 1, 5]) [zq 12 (.mv 1),
zq 13 (.mv 0),
zq 14 (.nilc 13),
zq 15 (.fad 80 1 10 14),
zq 16 (.ld 10 15),
zq 17 (.bin .geq 12 16),
zq 5 (.mv 17)]
def c51_3 : C := .reg (some [4]) [zq 4 (.mv (zi (-1)))]
def c51_4 : C := .reg (some [0, 1, 18]) [zq 19 (.mv 0),
zq 20 (.nilc 19),
zq 21 (.fad 80 2 78 20),
zq 22 (.mv 1),
zq 23 (.call (zf f_frames_set_has) [21, 22]),
zq 18 (.mv 23)]
def c51_5 : C := .reg (some [4]) [zq 4 (.mv (zi 0))]
def c51_6 : C := .reg (some [24]) [zq 25 (.mv 0),
zq 26 (.nilc 25),
zq 27 (.fad 80 3 78 26),
zq 28 (.mv 1),
zq 29 (.call (zf f_frames_set_has) [27, 28]),
zq 24 (.mv 29)]
def c51_7 : C := .reg (some [4]) [zq 4 (.mv (zi 2))]
def c51_8 : C := .reg (some [4]) [zq 4 (.mv (zi 1))]
/-- (*steadfast/frames.Frames).State -/
@[go_sem] def fc_frames_Frames_State : Fc := ⟨2,
  .seq (c51_0) (
  .seq (.block 0 (
    .seq (.seq (c51_1) (
    .cond (.t 5) (
      .skip) (
      c51_2))) (
    .cond (.t 5) (
      .seq (c51_3) (
      .ret)) (
      .seq (c51_4) (
      .cond (.t 18) (
        .seq (c51_5) (
        .ret)) (
        .seq (c51_6) (
        .cond (.t 24) (
          .seq (c51_7) (
          .ret)) (
          .skip)))))))) (
  .seq (c51_8) (
  .ret))),
  [.t 4]⟩
def c52_0 : C := .reg (some [0, 1]) [zq 4 (.mv (zi 0))]
def c52_1 : C := .regd (some [0, 1, 24]) [zq 5 (.mv 1),
zq 6 (.mv 0),
zq 7 (.nilc 6),
zq 8 (.fad 21 0 10 7),
zq 9 (.ld 10 8),
zq 10 (.bin .lss 5 9),
zq 11 (.mv 10),
zg 12 11 false (.mv 1),
zg 13 11 false (.mv 0),
zg 14 11 false (.nilc 13),
zg 15 11 false (.fad 21 0 10 14),
zg 16 11 false (.ld 10 15),
zg 17 11 false (.bin .sub 12 16),
zg 18 11 false (.mv 0),
zg 19 11 false (.nilc 18),
zg 20 11 false (.fad 21 1 1 19),
zg 21 11 false (.ld 1 20),
zg 22 11 false (.len false 21),
zg 23 11 false (.bin .geq 17 22),
zq 24 (.pick 11 (.k (.bool true)) 23)]
def c52_2 : C := .reg (some [4]) [zq 4 (.mv (zi (-1)))]
def c52_3 : C := .regd (some [4]) [zq 25 (.mv 0),
zq 26 (.nilc 25),
zq 27 (.fad 21 1 1 26),
zq 28 (.ld 1 27),
zq 29 (.mv 1),
zq 30 (.mv 0),
zq 31 (.nilc 30),
zq 32 (.fad 21 0 10 31),
zq 33 (.ld 10 32),
zq 34 (.bin .sub 29 33),
zq 35 (.sad 10 28 34),
zq 36 (.ld 10 35),
zq 4 (.mv 36)]
/-- (*steadfast/steadfastref04.Frames).State -/
@[go_sem] def fc_steadfastref04_Frames_State : Fc := ⟨2,
  .seq (c52_0) (
  .seq (.seq (c52_1) (
  .cond (.t 24) (
    .seq (c52_2) (
    .ret)) (
    .skip))) (
  .seq (c52_3) (
  .ret))),
  [.t 4]⟩
def c53_0 : C := .reg (some [0, 1]) [zq 4 (.mv (.k (.bool false)))]
def c53_1 : C := .reg (some [4]) [zq 5 (.mv 0),
zq 6 (.mv 1),
zq 7 (.bin .quo 6 (zi 64)),
zq 8 (.nilc 5),
zq 9 (.iad 78 16 18 8 7),
zq 10 (.ld 18 9),
zq 11 (.mv 1),
zq 12 (.bin .rem 11 (zi 64)),
zq 13 (.bin .shr 10 12),
zq 14 (.bin .and 13 (.k (.int .u64 1))),
zq 15 (.bin .eql 14 (.k (.int .u64 1))),
zq 4 (.mv 15)]
/-- (*steadfast/frames.set).has -/
@[go_sem] def fc_frames_set_has : Fc := ⟨2,
  .seq (c53_0) (
  .seq (c53_1) (
  .ret)),
  [.t 4]⟩
def D : Nat → Option Fc
  | 3 => some fc_steadfastlaw18_BankMakes
  | 4 => some fc_steadfastlaw18_shown
  | 5 => some fc_steadfastlaw18_made
  | 6 => some fc_bank_Make
  | 7 => some fc_steadfastref18_Make
  | 8 => some fc_objects_Store_Names
  | 9 => some fc_objects_Store_Make
  | 10 => some fc_caps_May
  | 11 => some fc_steadfastref07_Word
  | 12 => some fc_bank_End
  | 13 => some fc_nvm_Of
  | 14 => some fc_steadfastref03_Of
  | 15 => some fc_objects_Of
  | 16 => some fc_steadfastref10_Of
  | 17 => some fc_bank_by
  | 18 => some fc_objects_Store_Next
  | 19 => some fc_caps_Word
  | 20 => some fc_steadfastref07_May
  | 21 => some fc_steadfastref10_Store_Next
  | 22 => some fc_caps_Of
  | 23 => some fc_entry_Names
  | 24 => some fc_objects_Store_lay
  | 25 => some fc_steadfastref01_With
  | 26 => some fc_nvm_New
  | 27 => some fc_frames_New
  | 28 => some fc_nvm_Memory_Lines
  | 29 => some fc_frames_Frames_Take
  | 30 => some fc_objects_Store_share
  | 31 => some fc_steadfastref04_New
  | 32 => some fc_steadfastref10_lines
  | 33 => some fc_steadfastref04_Frames_Take
  | 34 => some fc_entry_Open
  | 35 => some fc_caps_may
  | 36 => some fc_steadfastref07_Of
  | 37 => some fc_steadfastref08_Open
  | 38 => some fc_frames_Frames_Alloc
  | 39 => some fc_nvm_Memory_Store
  | 40 => some fc_steadfastref01_is
  | 41 => some fc_steadfastref01_bit
  | 42 => some fc_frames_set_turn
  | 43 => some fc_frames_Frames_in
  | 44 => some fc_objects_lines_add
  | 45 => some fc_steadfastref04_Frames_turn
  | 46 => some fc_caps_within
  | 47 => some fc_steadfastref01_Field
  | 48 => some fc_math_bits_TrailingZeros64
  | 49 => some fc_nvm_Memory_at
  | 50 => some fc_nvm_Memory_step
  | 51 => some fc_frames_Frames_State
  | 52 => some fc_steadfastref04_Frames_State
  | 53 => some fc_frames_set_has
  | _ => none
theorem D_steadfastlaw18_BankMakes : D f_steadfastlaw18_BankMakes = some fc_steadfastlaw18_BankMakes := rfl
theorem D_steadfastlaw18_shown : D f_steadfastlaw18_shown = some fc_steadfastlaw18_shown := rfl
theorem D_steadfastlaw18_made : D f_steadfastlaw18_made = some fc_steadfastlaw18_made := rfl
theorem D_bank_Make : D f_bank_Make = some fc_bank_Make := rfl
theorem D_steadfastref18_Make : D f_steadfastref18_Make = some fc_steadfastref18_Make := rfl
theorem D_objects_Store_Names : D f_objects_Store_Names = some fc_objects_Store_Names := rfl
theorem D_objects_Store_Make : D f_objects_Store_Make = some fc_objects_Store_Make := rfl
theorem D_caps_May : D f_caps_May = some fc_caps_May := rfl
theorem D_steadfastref07_Word : D f_steadfastref07_Word = some fc_steadfastref07_Word := rfl
theorem D_bank_End : D f_bank_End = some fc_bank_End := rfl
theorem D_nvm_Of : D f_nvm_Of = some fc_nvm_Of := rfl
theorem D_steadfastref03_Of : D f_steadfastref03_Of = some fc_steadfastref03_Of := rfl
theorem D_objects_Of : D f_objects_Of = some fc_objects_Of := rfl
theorem D_steadfastref10_Of : D f_steadfastref10_Of = some fc_steadfastref10_Of := rfl
theorem D_bank_by : D f_bank_by = some fc_bank_by := rfl
theorem D_objects_Store_Next : D f_objects_Store_Next = some fc_objects_Store_Next := rfl
theorem D_caps_Word : D f_caps_Word = some fc_caps_Word := rfl
theorem D_steadfastref07_May : D f_steadfastref07_May = some fc_steadfastref07_May := rfl
theorem D_steadfastref10_Store_Next : D f_steadfastref10_Store_Next = some fc_steadfastref10_Store_Next := rfl
theorem D_caps_Of : D f_caps_Of = some fc_caps_Of := rfl
theorem D_entry_Names : D f_entry_Names = some fc_entry_Names := rfl
theorem D_objects_Store_lay : D f_objects_Store_lay = some fc_objects_Store_lay := rfl
theorem D_steadfastref01_With : D f_steadfastref01_With = some fc_steadfastref01_With := rfl
theorem D_nvm_New : D f_nvm_New = some fc_nvm_New := rfl
theorem D_frames_New : D f_frames_New = some fc_frames_New := rfl
theorem D_nvm_Memory_Lines : D f_nvm_Memory_Lines = some fc_nvm_Memory_Lines := rfl
theorem D_frames_Frames_Take : D f_frames_Frames_Take = some fc_frames_Frames_Take := rfl
theorem D_objects_Store_share : D f_objects_Store_share = some fc_objects_Store_share := rfl
theorem D_steadfastref04_New : D f_steadfastref04_New = some fc_steadfastref04_New := rfl
theorem D_steadfastref10_lines : D f_steadfastref10_lines = some fc_steadfastref10_lines := rfl
theorem D_steadfastref04_Frames_Take : D f_steadfastref04_Frames_Take = some fc_steadfastref04_Frames_Take := rfl
theorem D_entry_Open : D f_entry_Open = some fc_entry_Open := rfl
theorem D_caps_may : D f_caps_may = some fc_caps_may := rfl
theorem D_steadfastref07_Of : D f_steadfastref07_Of = some fc_steadfastref07_Of := rfl
theorem D_steadfastref08_Open : D f_steadfastref08_Open = some fc_steadfastref08_Open := rfl
theorem D_frames_Frames_Alloc : D f_frames_Frames_Alloc = some fc_frames_Frames_Alloc := rfl
theorem D_nvm_Memory_Store : D f_nvm_Memory_Store = some fc_nvm_Memory_Store := rfl
theorem D_steadfastref01_is : D f_steadfastref01_is = some fc_steadfastref01_is := rfl
theorem D_steadfastref01_bit : D f_steadfastref01_bit = some fc_steadfastref01_bit := rfl
theorem D_frames_set_turn : D f_frames_set_turn = some fc_frames_set_turn := rfl
theorem D_frames_Frames_in : D f_frames_Frames_in = some fc_frames_Frames_in := rfl
theorem D_objects_lines_add : D f_objects_lines_add = some fc_objects_lines_add := rfl
theorem D_steadfastref04_Frames_turn : D f_steadfastref04_Frames_turn = some fc_steadfastref04_Frames_turn := rfl
theorem D_caps_within : D f_caps_within = some fc_caps_within := rfl
theorem D_steadfastref01_Field : D f_steadfastref01_Field = some fc_steadfastref01_Field := rfl
theorem D_math_bits_TrailingZeros64 : D f_math_bits_TrailingZeros64 = some fc_math_bits_TrailingZeros64 := rfl
theorem D_nvm_Memory_at : D f_nvm_Memory_at = some fc_nvm_Memory_at := rfl
theorem D_nvm_Memory_step : D f_nvm_Memory_step = some fc_nvm_Memory_step := rfl
theorem D_frames_Frames_State : D f_frames_Frames_State = some fc_frames_Frames_State := rfl
theorem D_steadfastref04_Frames_State : D f_steadfastref04_Frames_State = some fc_steadfastref04_Frames_State := rfl
theorem D_frames_set_has : D f_frames_set_has = some fc_frames_set_has := rfl
@[go_sem] def R3_0 (_base : Nat) (s : St) (v0 v1 v2 : V) : OR :=
 some (.normal, [(0, v0), (1, v1), (2, v2)], s)
@[go_sem] theorem t3_0 : rc D b c3_0 ρ s = R3_0 b s (get ρ 0) (get ρ 1) (get ρ 2) := zr (by kernel_rfl)
@[go_sem] def R3_1 (_base : Nat) (s : St) (v0 v1 v2 : V) : OR :=
 obind (rf D f_steadfastlaw18_shown [] s) fun x0 =>
 some (.normal, [(0, v0), (1, v1), (2, v2), (7, x0.1)], x0.2)
@[go_sem] theorem t3_1 : rc D b c3_1 ρ s = R3_1 b s (get ρ 0) (get ρ 1) (get ρ 2) := zr (by kernel_rfl)
@[go_sem] def R3_2 (_base : Nat) (s : St) (v0 v1 v2 v7 : V) : OR :=
 obind (rf D f_steadfastlaw18_made [v0] s) fun x0 =>
 obind (extv 0 x0.1) fun x1 =>
 obind (extv 1 x0.1) fun x2 =>
 some (.normal, [(1, v1), (2, v2), (7, v7), (8, x1), (9, x2)], x0.2)
@[go_sem] theorem t3_2 : rc D b c3_2 ρ s = R3_2 b s (get ρ 0) (get ρ 1) (get ρ 2) (get ρ 7) := zr (by kernel_rfl)
@[go_sem] def R3_3 (_base : Nat) (s : St) (v1 v2 v7 v8 v9 : V) : OR :=
 obind (vun .not v7) fun x0 =>
 oguard x0 false (
   obind (eqv false 1 v8 .nilp) fun x1 =>
   some (.normal, [(1, v1), (2, v2), (8, v8), (9, v9), (33, x1)], s)) (
   some (.normal, [(1, v1), (2, v2), (8, v8), (9, v9), (33, (.bool true))], s)) (
   none)
@[go_sem] theorem t3_3 : rc D b c3_3 ρ s = R3_3 b s (get ρ 1) (get ρ 2) (get ρ 7) (get ρ 8) (get ρ 9) := zr (by kernel_rfl)
@[go_sem] def R3_4 (_base : Nat) (s : St) : OR :=
 some (.normal, [(6, (.bool false))], s)
@[go_sem] theorem t3_4 : rc D b c3_4 ρ s = R3_4 b s := zr (by kernel_rfl)
@[go_sem] def R3_5 (_base : Nat) (s : St) (v1 v2 v8 v9 : V) : OR :=
 obind (rf D f_bank_Make [v8, v1, v2] s) fun x0 =>
 obind (extv 0 x0.1) fun x1 =>
 obind (extv 1 x0.1) fun x2 =>
 obind (extv 2 x0.1) fun x3 =>
 some (.normal, [(1, v1), (2, v2), (8, v8), (9, v9), (10, x1), (11, x2), (12, x3)], x0.2)
@[go_sem] theorem t3_5 : rc D b c3_5 ρ s = R3_5 b s (get ρ 1) (get ρ 2) (get ρ 8) (get ρ 9) := zr (by kernel_rfl)
@[go_sem] def R3_6 (_base : Nat) (s : St) (v1 v2 v8 v9 v10 v11 v12 : V) : OR :=
 obind (rf D f_steadfastref18_Make [v9, v1, v2] s) fun x0 =>
 obind (extv 0 x0.1) fun x1 =>
 obind (extv 1 x0.1) fun x2 =>
 obind (extv 2 x0.1) fun x3 =>
 some (.normal, [(2, v2), (8, v8), (10, v10), (11, v11), (12, v12), (13, x1), (14, x2), (15, x3)], x0.2)
@[go_sem] theorem t3_6 : rc D b c3_6 ρ s = R3_6 b s (get ρ 1) (get ρ 2) (get ρ 8) (get ρ 9) (get ρ 10) (get ρ 11) (get ρ 12) := zr (by kernel_rfl)
@[go_sem] def R3_7 (_base : Nat) (s : St) (v2 v8 v10 v11 v12 v13 v14 v15 : V) : OR :=
 obind (vbin .neq v10 v13) fun x0 =>
 oguard x0 false (
   obind (vbin .neq v11 v14) fun x1 =>
   oguard x1 false (
     obind (vbin .neq v12 v15) fun x2 =>
     some (.normal, [(2, v2), (8, v8), (10, v10), (11, v11), (12, v12), (62, x2)], s)) (
     some (.normal, [(2, v2), (8, v8), (10, v10), (11, v11), (12, v12), (62, (.bool true))], s)) (
     none)) (
   some (.normal, [(2, v2), (8, v8), (10, v10), (11, v11), (12, v12), (62, (.bool true))], s)) (
   none)
@[go_sem] theorem t3_7 : rc D b c3_7 ρ s = R3_7 b s (get ρ 2) (get ρ 8) (get ρ 10) (get ρ 11) (get ρ 12) (get ρ 13) (get ρ 14) (get ρ 15) := zr (by kernel_rfl)
@[go_sem] def R3_8 (_base : Nat) (s : St) : OR :=
 some (.normal, [(6, (.bool false))], s)
@[go_sem] theorem t3_8 : rc D b c3_8 ρ s = R3_8 b s := zr (by kernel_rfl)
@[go_sem] def R3_9 (_base : Nat) (s : St) (v2 v8 v10 v11 v12 : V) : OR :=
 obind (vbin .neq v12 (.int .i64 0)) fun x0 =>
 some (.normal, [(2, v2), (8, v8), (10, v10), (11, v11), (64, x0)], s)
@[go_sem] theorem t3_9 : rc D b c3_9 ρ s = R3_9 b s (get ρ 2) (get ρ 8) (get ρ 10) (get ρ 11) (get ρ 12) := zr (by kernel_rfl)
@[go_sem] def R3_10 (_base : Nat) (s : St) : OR :=
 some (.normal, [(6, (.bool true))], s)
@[go_sem] theorem t3_10 : rc D b c3_10 ρ s = R3_10 b s := zr (by kernel_rfl)
@[go_sem] def R3_11 (_base : Nat) (s : St) (v2 v8 v10 v11 : V) : OR :=
 obind (rf D f_objects_Store_Names [v8, v11] s) fun x0 =>
 obind (extv 0 x0.1) fun _x1 =>
 obind (extv 1 x0.1) fun x2 =>
 some (.normal, [(2, v2), (8, v8), (10, v10), (11, v11), (17, x2)], x0.2)
@[go_sem] theorem t3_11 : rc D b c3_11 ρ s = R3_11 b s (get ρ 2) (get ρ 8) (get ρ 10) (get ρ 11) := zr (by kernel_rfl)
@[go_sem] def R3_12 (_base : Nat) (s : St) (v2 v8 v10 v11 v17 : V) : OR :=
 obind (rf D f_objects_Store_Make [v8, v2] s) fun x0 =>
 obind (extv 0 x0.1) fun x1 =>
 obind (extv 1 x0.1) fun x2 =>
 some (.normal, [(2, v2), (8, v8), (10, v10), (11, v11), (17, v17), (18, x1), (19, x2)], x0.2)
@[go_sem] theorem t3_12 : rc D b c3_12 ρ s = R3_12 b s (get ρ 2) (get ρ 8) (get ρ 10) (get ρ 11) (get ρ 17) := zr (by kernel_rfl)
@[go_sem] def R3_13 (_base : Nat) (s : St) (v2 v8 v10 v11 v17 v18 v19 : V) : OR :=
 obind (rf D f_objects_Store_Names [v8, v11] s) fun x0 =>
 obind (extv 0 x0.1) fun x1 =>
 obind (extv 1 x0.1) fun x2 =>
 some (.normal, [(2, v2), (10, v10), (11, v11), (17, v17), (18, v18), (19, v19), (20, x1), (21, x2)], x0.2)
@[go_sem] theorem t3_13 : rc D b c3_13 ρ s = R3_13 b s (get ρ 2) (get ρ 8) (get ρ 10) (get ρ 11) (get ρ 17) (get ρ 18) (get ρ 19) := zr (by kernel_rfl)
@[go_sem] def R3_14 (_base : Nat) (s : St) (v2 v10 v11 v17 v18 v19 v20 v21 : V) : OR :=
 obind (vbin .neq v17 (.int .i64 0)) fun x0 =>
 oguard x0 true (
   obind (vbin .eql v19 (.int .i64 0)) fun x1 =>
   oguard x1 true (
     obind (vbin .eql v18 v10) fun x2 =>
     oguard x2 true (
       obind (vbin .eql v21 (.int .i64 0)) fun x3 =>
       oguard x3 true (
         obind (vbin .eql v20 v10) fun x4 =>
         oguard x4 true (
           obind (rf D f_caps_May [v11, v2, (.int .i64 15)] s) fun x5 =>
           obind (vbin .eql x5.1 (.int .i64 0)) fun x6 =>
           some (.normal, [(6, x6)], x5.2)) (
           some (.normal, [(6, (.bool false))], s)) (
           none)) (
         some (.normal, [(6, (.bool false))], s)) (
         none)) (
       some (.normal, [(6, (.bool false))], s)) (
       none)) (
     some (.normal, [(6, (.bool false))], s)) (
     none)) (
   some (.normal, [(6, (.bool false))], s)) (
   none)
@[go_sem] theorem t3_14 : rc D b c3_14 ρ s = R3_14 b s (get ρ 2) (get ρ 10) (get ρ 11) (get ρ 17) (get ρ 18) (get ρ 19) (get ρ 20) (get ρ 21) := zr (by kernel_rfl)
@[go_sem] def R4_0 (_base : Nat) (s : St) : OR :=
 some (.normal, [], s)
@[go_sem] theorem t4_0 : rc D b c4_0 ρ s = R4_0 b s := zr (by kernel_rfl)
@[go_sem] def R4_1 (_base : Nat) (s : St) : OR :=
 obind (rf D f_steadfastlaw18_made [.nils] s) fun x0 =>
 obind (extv 0 x0.1) fun x1 =>
 obind (extv 1 x0.1) fun _x2 =>
 some (.normal, [(1, x1)], x0.2)
@[go_sem] theorem t4_1 : rc D b c4_1 ρ s = R4_1 b s := zr (by kernel_rfl)
@[go_sem] def R4_2 (_base : Nat) (s : St) (v1 : V) : OR :=
 obind (eqv false 1 v1 .nilp) fun x0 =>
 some (.normal, [(1, v1), (23, x0)], s)
@[go_sem] theorem t4_2 : rc D b c4_2 ρ s = R4_2 b s (get ρ 1) := zr (by kernel_rfl)
@[go_sem] def R4_3 (_base : Nat) (s : St) : OR :=
 some (.normal, [(0, (.bool false))], s)
@[go_sem] theorem t4_3 : rc D b c4_3 ρ s = R4_3 b s := zr (by kernel_rfl)
@[go_sem] def R4_4 (_base : Nat) (s : St) (v1 : V) : OR :=
 obind (setParts [(.int .i64 0), (.int .i64 0), (.int .i64 0), (.int .i64 0), (.int .i64 0)] [(0, (.int .i64 5)), (1, (.int .i64 1))]) fun x0 =>
 obind (rf D f_steadfastref07_Word [(.agg 40 x0)] s) fun x1 =>
 obind (extv 0 x1.1) fun x2 =>
 obind (extv 1 x1.1) fun _x3 =>
 some (.normal, [(1, v1), (3, x2)], x1.2)
@[go_sem] theorem t4_4 : rc D b c4_4 ρ s = R4_4 b s (get ρ 1) := zr (by kernel_rfl)
@[go_sem] def R4_5 (_base : Nat) (s : St) (v1 v3 : V) : OR :=
 obind (setParts [(.int .i64 0), (.int .i64 0), (.int .i64 0), (.int .i64 0), (.int .i64 0)] [(0, (.int .i64 5)), (1, (.int .i64 3))]) fun x0 =>
 obind (rf D f_steadfastref07_Word [(.agg 40 x0)] s) fun x1 =>
 obind (extv 0 x1.1) fun x2 =>
 obind (extv 1 x1.1) fun _x3 =>
 some (.normal, [(1, v1), (3, v3), (5, x2)], x1.2)
@[go_sem] theorem t4_5 : rc D b c4_5 ρ s = R4_5 b s (get ρ 1) (get ρ 3) := zr (by kernel_rfl)
@[go_sem] def R4_6 (_base : Nat) (s : St) (v1 v3 v5 : V) : OR :=
 obind (rf D f_bank_Make [v1, (.int .u64 0), (.int .i64 1)] s) fun x0 =>
 obind (extv 0 x0.1) fun _x1 =>
 obind (extv 1 x0.1) fun _x2 =>
 obind (extv 2 x0.1) fun x3 =>
 some (.normal, [(1, v1), (3, v3), (5, v5), (9, x3)], x0.2)
@[go_sem] theorem t4_6 : rc D b c4_6 ρ s = R4_6 b s (get ρ 1) (get ρ 3) (get ρ 5) := zr (by kernel_rfl)
@[go_sem] def R4_7 (_base : Nat) (s : St) (v1 v3 v5 v9 : V) : OR :=
 obind (rf D f_bank_Make [v1, v3, (.int .i64 1)] s) fun x0 =>
 obind (extv 0 x0.1) fun _x1 =>
 obind (extv 1 x0.1) fun _x2 =>
 obind (extv 2 x0.1) fun x3 =>
 some (.normal, [(1, v1), (5, v5), (9, v9), (12, x3)], x0.2)
@[go_sem] theorem t4_7 : rc D b c4_7 ρ s = R4_7 b s (get ρ 1) (get ρ 3) (get ρ 5) (get ρ 9) := zr (by kernel_rfl)
@[go_sem] def R4_8 (_base : Nat) (s : St) (v1 v5 v9 v12 : V) : OR :=
 obind (rf D f_bank_End [v1, v5, (.int .u64 0)] s) fun x0 =>
 obind (extv 0 x0.1) fun _x1 =>
 obind (extv 1 x0.1) fun x2 =>
 some (.normal, [(1, v1), (5, v5), (9, v9), (12, v12), (14, x2)], x0.2)
@[go_sem] theorem t4_8 : rc D b c4_8 ρ s = R4_8 b s (get ρ 1) (get ρ 5) (get ρ 9) (get ρ 12) := zr (by kernel_rfl)
@[go_sem] def R4_9 (_base : Nat) (s : St) (v1 v5 v9 v12 v14 : V) : OR :=
 obind (rf D f_bank_Make [v1, v5, (.int .i64 1)] s) fun x0 =>
 obind (extv 0 x0.1) fun x1 =>
 obind (extv 1 x0.1) fun x2 =>
 obind (extv 2 x0.1) fun x3 =>
 some (.normal, [(9, v9), (12, v12), (14, v14), (15, x1), (16, x2), (17, x3)], x0.2)
@[go_sem] theorem t4_9 : rc D b c4_9 ρ s = R4_9 b s (get ρ 1) (get ρ 5) (get ρ 9) (get ρ 12) (get ρ 14) := zr (by kernel_rfl)
@[go_sem] def R4_10 (_base : Nat) (s : St) (v9 v12 v14 v15 v16 v17 : V) : OR :=
 obind (vbin .eql v9 (.int .i64 31)) fun x0 =>
 oguard x0 true (
   obind (vbin .eql v12 (.int .i64 32)) fun x1 =>
   oguard x1 true (
     obind (vbin .eql v14 (.int .i64 31)) fun x2 =>
     oguard x2 true (
       obind (vbin .eql v15 (.int .i64 0)) fun x3 =>
       oguard x3 true (
         obind (vbin .eql v16 (.int .u64 241)) fun x4 =>
         oguard x4 true (
           obind (vbin .eql v17 (.int .i64 0)) fun x5 =>
           some (.normal, [(0, x5)], s)) (
           some (.normal, [(0, (.bool false))], s)) (
           none)) (
         some (.normal, [(0, (.bool false))], s)) (
         none)) (
       some (.normal, [(0, (.bool false))], s)) (
       none)) (
     some (.normal, [(0, (.bool false))], s)) (
     none)) (
   some (.normal, [(0, (.bool false))], s)) (
   none)
@[go_sem] theorem t4_10 : rc D b c4_10 ρ s = R4_10 b s (get ρ 9) (get ρ 12) (get ρ 14) (get ρ 15) (get ρ 16) (get ρ 17) := zr (by kernel_rfl)
@[go_sem] def R5_0 (_base : Nat) (s : St) (v0 : V) : OR :=
 some (.normal, [(0, v0)], s)
@[go_sem] theorem t5_0 : rc D b c5_0 ρ s = R5_0 b s (get ρ 0) := zr (by kernel_rfl)
@[go_sem] def R5_1 (_base : Nat) (s : St) (v0 : V) : OR :=
 obind (mkslv false 58 24 (.agg 24 (List.replicate 8 (.int .u64 0))) s (.int .i64 100) (.int .i64 100)) fun x0 =>
 some (.normal, [(0, v0), (4, x0.1)], x0.2)
@[go_sem] theorem t5_1 : rc D b c5_1 ρ s = R5_1 b s (get ρ 0) := zr (by kernel_rfl)
@[go_sem] def R5_2 (base : Nat) (s : St) (v0 v4 : V) : OR :=
 obind (setParts (List.replicate 49 (.agg 42 [(.int .i64 0), (.int .i64 0), (.int .i64 0)])) []) fun x0 =>
 let x1 : V := .ptr (St.fresh s false) [] 48; let s1 : St := St.new s false (.agg 48 (List.replicate 49 (.agg 42 [(.int .i64 0), (.int .i64 0), (.int .i64 0)])))
 obind (stv base s1 48 (.agg 48 x0) x1) fun s2 =>
 some (.normal, [(0, v0), (4, v4), (5, x1)], s2)
@[go_sem] theorem t5_2 : rc D b c5_2 ρ s = R5_2 b s (get ρ 0) (get ρ 4) := zr (by kernel_rfl)
@[go_sem] def R5_3 (_base : Nat) (s : St) (v0 v4 v5 : V) : OR :=
 some (.normal, [(0, v0), (4, v4), (5, v5), (6, (.int .i64 0))], s)
@[go_sem] theorem t5_3 : rc D b c5_3 ρ s = R5_3 b s (get ρ 0) (get ρ 4) (get ρ 5) := zr (by kernel_rfl)
@[go_sem] def R5_4 (_base : Nat) (s : St) (v0 v4 v5 v6 : V) : OR :=
 obind (V.slen false v0) fun x0 =>
 obind (vbin .lss v6 (.int .i64 x0)) fun x1 =>
 oguard x1 true (
   obind (vbin .lss v6 (.int .i64 49)) fun x2 =>
   some (.normal, [(0, v0), (4, v4), (5, v5), (6, v6), (28, x2)], s)) (
   some (.normal, [(0, v0), (4, v4), (5, v5), (6, v6), (28, (.bool false))], s)) (
   none)
@[go_sem] theorem t5_4 : rc D b c5_4 ρ s = R5_4 b s (get ρ 0) (get ρ 4) (get ρ 5) (get ρ 6) := zr (by kernel_rfl)
@[go_sem] def R5_5 (_base : Nat) (s : St) (v0 v4 v5 v6 : V) : OR :=
 obind (sadv 26 v0 v6) fun x0 =>
 obind (fadv 26 0 10 x0) fun x1 =>
 obind (ldv s 10 x1) fun x2 =>
 obind (vbin .rem x2 (.int .i64 5)) fun x3 =>
 some (.normal, [(0, v0), (4, v4), (5, v5), (6, v6), (7, x3)], s)
@[go_sem] theorem t5_5 : rc D b c5_5 ρ s = R5_5 b s (get ρ 0) (get ρ 4) (get ρ 5) (get ρ 6) := zr (by kernel_rfl)
@[go_sem] def R5_6 (_base : Nat) (s : St) (v0 v4 v5 v6 v7 : V) : OR :=
 obind (vbin .lss v7 (.int .i64 0)) fun x0 =>
 some (.normal, [(0, v0), (4, v4), (5, v5), (6, v6), (7, v7), (38, x0)], s)
@[go_sem] theorem t5_6 : rc D b c5_6 ρ s = R5_6 b s (get ρ 0) (get ρ 4) (get ρ 5) (get ρ 6) (get ρ 7) := zr (by kernel_rfl)
@[go_sem] def R5_7 (_base : Nat) (s : St) (v0 v4 v5 v6 v7 : V) : OR :=
 obind (vun .neg v7) fun x0 =>
 some (.normal, [(0, v0), (4, v4), (5, v5), (6, v6), (7, x0)], s)
@[go_sem] theorem t5_7 : rc D b c5_7 ρ s = R5_7 b s (get ρ 0) (get ρ 4) (get ρ 5) (get ρ 6) (get ρ 7) := zr (by kernel_rfl)
@[go_sem] def R5_8 (_base : Nat) (s : St) (v0 v4 v5 v6 v7 : V) : OR :=
 obind (sadv 26 v0 v6) fun x0 =>
 obind (fadv 26 1 10 x0) fun x1 =>
 obind (ldv s 10 x1) fun x2 =>
 obind (vbin .rem x2 (.int .i64 16777216)) fun x3 =>
 some (.normal, [(0, v0), (4, v4), (5, v5), (6, v6), (7, v7), (8, x3)], s)
@[go_sem] theorem t5_8 : rc D b c5_8 ρ s = R5_8 b s (get ρ 0) (get ρ 4) (get ρ 5) (get ρ 6) (get ρ 7) := zr (by kernel_rfl)
@[go_sem] def R5_9 (_base : Nat) (s : St) (v0 v4 v5 v6 v7 v8 : V) : OR :=
 obind (vbin .lss v8 (.int .i64 0)) fun x0 =>
 some (.normal, [(0, v0), (4, v4), (5, v5), (6, v6), (7, v7), (8, v8), (48, x0)], s)
@[go_sem] theorem t5_9 : rc D b c5_9 ρ s = R5_9 b s (get ρ 0) (get ρ 4) (get ρ 5) (get ρ 6) (get ρ 7) (get ρ 8) := zr (by kernel_rfl)
@[go_sem] def R5_10 (_base : Nat) (s : St) (v0 v4 v5 v6 v7 v8 : V) : OR :=
 obind (vun .neg v8) fun x0 =>
 some (.normal, [(0, v0), (4, v4), (5, v5), (6, v6), (7, v7), (8, x0)], s)
@[go_sem] theorem t5_10 : rc D b c5_10 ρ s = R5_10 b s (get ρ 0) (get ρ 4) (get ρ 5) (get ρ 6) (get ρ 7) (get ρ 8) := zr (by kernel_rfl)
@[go_sem] def R5_11 (base : Nat) (s : St) (v0 v4 v5 v6 v7 v8 : V) : OR :=
 obind (setParts [(.int .i64 0), (.int .i64 0), (.int .i64 0)] [(0, v7), (1, v8)]) fun x0 =>
 obind (iadv 48 49 42 v5 v6) fun x1 =>
 obind (stv base s 42 (.agg 42 x0) x1) fun s2 =>
 some (.normal, [(0, v0), (4, v4), (5, v5), (6, v6), (7, v7)], s2)
@[go_sem] theorem t5_11 : rc D b c5_11 ρ s = R5_11 b s (get ρ 0) (get ρ 4) (get ρ 5) (get ρ 6) (get ρ 7) (get ρ 8) := zr (by kernel_rfl)
@[go_sem] def R5_12 (_base : Nat) (s : St) (v0 v4 v5 v6 v7 : V) : OR :=
 obind (vbin .neq v7 (.int .i64 0)) fun x0 =>
 some (.normal, [(0, v0), (4, v4), (5, v5), (6, v6), (57, x0)], s)
@[go_sem] theorem t5_12 : rc D b c5_12 ρ s = R5_12 b s (get ρ 0) (get ρ 4) (get ρ 5) (get ρ 6) (get ρ 7) := zr (by kernel_rfl)
@[go_sem] def R5_13 (base : Nat) (s : St) (v0 v4 v5 v6 : V) : OR :=
 obind (vbin .add (.int .i64 20) v6) fun x0 =>
 obind (iadv 48 49 42 v5 v6) fun x1 =>
 obind (fadv 42 2 10 x1) fun x2 =>
 obind (stv base s 10 x0 x2) fun s3 =>
 some (.normal, [(0, v0), (4, v4), (5, v5), (6, v6)], s3)
@[go_sem] theorem t5_13 : rc D b c5_13 ρ s = R5_13 b s (get ρ 0) (get ρ 4) (get ρ 5) (get ρ 6) := zr (by kernel_rfl)
@[go_sem] def R5_14 (base : Nat) (s : St) (v0 v4 v5 v6 : V) : OR :=
 obind (vbin .add (.int .i64 20) v6) fun x0 =>
 obind (sadv 26 v0 v6) fun x1 =>
 obind (fadv 26 2 24 x1) fun x2 =>
 obind (ldv s 24 x2) fun x3 =>
 obind (sadv 24 v4 x0) fun x4 =>
 obind (stv base s 24 x3 x4) fun s5 =>
 some (.normal, [(0, v0), (4, v4), (5, v5), (6, v6)], s5)
@[go_sem] theorem t5_14 : rc D b c5_14 ρ s = R5_14 b s (get ρ 0) (get ρ 4) (get ρ 5) (get ρ 6) := zr (by kernel_rfl)
@[go_sem] def R5_15 (_base : Nat) (s : St) (v0 v4 v5 v6 : V) : OR :=
 obind (vbin .add v6 (.int .i64 1)) fun x0 =>
 some (.normal, [(0, v0), (4, v4), (5, v5), (6, x0)], s)
@[go_sem] theorem t5_15 : rc D b c5_15 ρ s = R5_15 b s (get ρ 0) (get ρ 4) (get ρ 5) (get ρ 6) := zr (by kernel_rfl)
@[go_sem] def R5_16 (base : Nat) (s : St) (v4 v5 : V) : OR :=
 obind (setParts (List.replicate 8 (.int .i64 0)) []) fun x0 =>
 let x1 : V := .ptr (St.fresh s false) [] 50; let s1 : St := St.new s false (.agg 50 (List.replicate 8 (.int .i64 0)))
 obind (stv base s1 50 (.agg 50 x0) x1) fun s2 =>
 some (.normal, [(4, v4), (5, v5), (9, x1)], s2)
@[go_sem] theorem t5_16 : rc D b c5_16 ρ s = R5_16 b s (get ρ 4) (get ρ 5) := zr (by kernel_rfl)
@[go_sem] def R5_17 (_base : Nat) (s : St) (v4 v5 v9 : V) : OR :=
 some (.normal, [(4, v4), (5, v5), (9, v9), (10, (.int .i64 0))], s)
@[go_sem] theorem t5_17 : rc D b c5_17 ρ s = R5_17 b s (get ρ 4) (get ρ 5) (get ρ 9) := zr (by kernel_rfl)
@[go_sem] def R5_18 (_base : Nat) (s : St) (v4 v5 v9 v10 : V) : OR :=
 obind (vbin .lss v10 (.int .i64 8)) fun x0 =>
 some (.normal, [(4, v4), (5, v5), (9, v9), (10, v10), (74, x0)], s)
@[go_sem] theorem t5_18 : rc D b c5_18 ρ s = R5_18 b s (get ρ 4) (get ρ 5) (get ρ 9) (get ρ 10) := zr (by kernel_rfl)
@[go_sem] def R5_19 (base : Nat) (s : St) (v4 v5 v9 v10 : V) : OR :=
 obind (vbin .add (.int .i64 10) v10) fun x0 =>
 obind (iadv 50 8 10 v9 v10) fun x1 =>
 obind (stv base s 10 x0 x1) fun s2 =>
 some (.normal, [(4, v4), (5, v5), (9, v9), (10, v10)], s2)
@[go_sem] theorem t5_19 : rc D b c5_19 ρ s = R5_19 b s (get ρ 4) (get ρ 5) (get ρ 9) (get ρ 10) := zr (by kernel_rfl)
@[go_sem] def R5_20 (_base : Nat) (s : St) (v4 v5 v9 v10 : V) : OR :=
 obind (vbin .add v10 (.int .i64 1)) fun x0 =>
 some (.normal, [(4, v4), (5, v5), (9, v9), (10, x0)], s)
@[go_sem] theorem t5_20 : rc D b c5_20 ρ s = R5_20 b s (get ρ 4) (get ρ 5) (get ρ 9) (get ρ 10) := zr (by kernel_rfl)
@[go_sem] def R5_21 (_base : Nat) (s : St) (v4 v5 v9 : V) : OR :=
 obind (rf D f_nvm_Of [v4] s) fun x0 =>
 obind (extv 0 x0.1) fun x1 =>
 obind (extv 1 x0.1) fun _x2 =>
 some (.normal, [(4, v4), (5, v5), (9, v9), (11, x1)], x0.2)
@[go_sem] theorem t5_21 : rc D b c5_21 ρ s = R5_21 b s (get ρ 4) (get ρ 5) (get ρ 9) := zr (by kernel_rfl)
@[go_sem] def R5_22 (_base : Nat) (s : St) (v4 v5 v9 v11 : V) : OR :=
 obind (rf D f_steadfastref03_Of [v4] s) fun x0 =>
 obind (extv 0 x0.1) fun x1 =>
 obind (extv 1 x0.1) fun _x2 =>
 some (.normal, [(5, v5), (9, v9), (11, v11), (13, x1)], x0.2)
@[go_sem] theorem t5_22 : rc D b c5_22 ρ s = R5_22 b s (get ρ 4) (get ρ 5) (get ρ 9) (get ρ 11) := zr (by kernel_rfl)
@[go_sem] def R5_23 (_base : Nat) (s : St) (v5 v9 v11 v13 : V) : OR :=
 obind (eqv false 1 v11 .nilp) fun x0 =>
 some (.normal, [(5, v5), (9, v9), (11, v11), (13, v13), (92, x0)], s)
@[go_sem] theorem t5_23 : rc D b c5_23 ρ s = R5_23 b s (get ρ 5) (get ρ 9) (get ρ 11) (get ρ 13) := zr (by kernel_rfl)
@[go_sem] def R5_24 (_base : Nat) (s : St) : OR :=
 some (.normal, [(2, .nilp), (3, .nilp)], s)
@[go_sem] theorem t5_24 : rc D b c5_24 ρ s = R5_24 b s := zr (by kernel_rfl)
@[go_sem] def R5_25 (_base : Nat) (s : St) (v5 v9 v11 v13 : V) : OR :=
 obind (ldv s 48 v5) fun x0 =>
 obind (ldv s 50 v9) fun x1 =>
 obind (rf D f_objects_Of [v11, (.int .i64 10), x0, x1] s) fun x2 =>
 obind (extv 0 x2.1) fun x3 =>
 obind (extv 1 x2.1) fun _x4 =>
 some (.normal, [(5, v5), (9, v9), (13, v13), (15, x3)], x2.2)
@[go_sem] theorem t5_25 : rc D b c5_25 ρ s = R5_25 b s (get ρ 5) (get ρ 9) (get ρ 11) (get ρ 13) := zr (by kernel_rfl)
@[go_sem] def R5_26 (_base : Nat) (s : St) (v5 v9 v13 v15 : V) : OR :=
 obind (ldv s 48 v5) fun x0 =>
 obind (ldv s 50 v9) fun x1 =>
 obind (rf D f_steadfastref10_Of [v13, (.int .i64 10), x0, x1] s) fun x2 =>
 obind (extv 0 x2.1) fun x3 =>
 obind (extv 1 x2.1) fun _x4 =>
 some (.normal, [(15, v15), (17, x3)], x2.2)
@[go_sem] theorem t5_26 : rc D b c5_26 ρ s = R5_26 b s (get ρ 5) (get ρ 9) (get ρ 13) (get ρ 15) := zr (by kernel_rfl)
@[go_sem] def R5_27 (_base : Nat) (s : St) (v15 v17 : V) : OR :=
 some (.normal, [(2, v15), (3, v17)], s)
@[go_sem] theorem t5_27 : rc D b c5_27 ρ s = R5_27 b s (get ρ 15) (get ρ 17) := zr (by kernel_rfl)
@[go_sem] def R6_0 (_base : Nat) (s : St) (v0 v1 v2 : V) : OR :=
 some (.normal, [(0, v0), (1, v1), (2, v2)], s)
@[go_sem] theorem t6_0 : rc D b c6_0 ρ s = R6_0 b s (get ρ 0) (get ρ 1) (get ρ 2) := zr (by kernel_rfl)
@[go_sem] def R6_1 (_base : Nat) (s : St) (v0 v1 v2 : V) : OR :=
 some (.normal, [(0, v0), (1, v1), (2, v2)], s)
@[go_sem] theorem t6_1 : rc D b c6_1 ρ s = R6_1 b s (get ρ 0) (get ρ 1) (get ρ 2) := zr (by kernel_rfl)
@[go_sem] def R6_2 (_base : Nat) (s : St) (v0 v1 v2 : V) : OR :=
 obind (rf D f_bank_by [v1] s) fun x0 =>
 some (.normal, [(0, v0), (2, v2), (8, x0.1)], x0.2)
@[go_sem] theorem t6_2 : rc D b c6_2 ρ s = R6_2 b s (get ρ 0) (get ρ 1) (get ρ 2) := zr (by kernel_rfl)
@[go_sem] def R6_3 (_base : Nat) (s : St) (v0 v2 v8 : V) : OR :=
 obind (vbin .neq v8 (.int .i64 0)) fun x0 =>
 some (.normal, [(0, v0), (2, v2), (8, v8), (13, x0)], s)
@[go_sem] theorem t6_3 : rc D b c6_3 ρ s = R6_3 b s (get ρ 0) (get ρ 2) (get ρ 8) := zr (by kernel_rfl)
@[go_sem] def R6_4 (_base : Nat) (s : St) (v0 v2 : V) : OR :=
 obind (rf D f_objects_Store_Next [v0, v2] s) fun x0 =>
 obind (extv 0 x0.1) fun x1 =>
 obind (extv 1 x0.1) fun x2 =>
 obind (extv 2 x0.1) fun x3 =>
 some (.normal, [(2, v2), (6, x1), (8, x3), (9, x2)], x0.2)
@[go_sem] theorem t6_4 : rc D b c6_4 ρ s = R6_4 b s (get ρ 0) (get ρ 2) := zr (by kernel_rfl)
@[go_sem] def R6_5 (_base : Nat) (s : St) (v2 v6 v8 v9 : V) : OR :=
 obind (vbin .neq v8 (.int .i64 0)) fun x0 =>
 some (.normal, [(2, v2), (6, v6), (8, v8), (9, v9), (22, x0)], s)
@[go_sem] theorem t6_5 : rc D b c6_5 ρ s = R6_5 b s (get ρ 2) (get ρ 6) (get ρ 8) (get ρ 9) := zr (by kernel_rfl)
@[go_sem] def R6_6 (_base : Nat) (s : St) (v2 v6 v9 : V) : OR :=
 obind (setParts [(.int .i64 0), (.int .i64 0), (.int .i64 0), (.int .i64 0), (.int .i64 0)] [(0, v2), (1, (.int .i64 15)), (2, v6), (3, v9)]) fun x0 =>
 obind (rf D f_caps_Word [(.agg 40 x0)] s) fun x1 =>
 obind (extv 0 x1.1) fun x2 =>
 obind (extv 1 x1.1) fun x3 =>
 some (.normal, [(6, v6), (7, x2), (8, x3)], x1.2)
@[go_sem] theorem t6_6 : rc D b c6_6 ρ s = R6_6 b s (get ρ 2) (get ρ 6) (get ρ 9) := zr (by kernel_rfl)
@[go_sem] def R6_7 (_base : Nat) (s : St) (v6 v7 v8 : V) : OR :=
 some (.normal, [(6, v6), (7, v7), (8, v8)], s)
@[go_sem] theorem t6_7 : rc D b c6_7 ρ s = R6_7 b s (get ρ 6) (get ρ 7) (get ρ 8) := zr (by kernel_rfl)
@[go_sem] def R6_8 (_base : Nat) (s : St) (v8 : V) : OR :=
 some (.normal, [(6, (.int .i64 0)), (7, (.int .u64 0)), (8, v8)], s)
@[go_sem] theorem t6_8 : rc D b c6_8 ρ s = R6_8 b s (get ρ 8) := zr (by kernel_rfl)
@[go_sem] def R7_0 (_base : Nat) (s : St) (v0 v1 v2 : V) : OR :=
 some (.normal, [(0, v0), (1, v1), (2, v2)], s)
@[go_sem] theorem t7_0 : rc D b c7_0 ρ s = R7_0 b s (get ρ 0) (get ρ 1) (get ρ 2) := zr (by kernel_rfl)
@[go_sem] def R7_1 (_base : Nat) (s : St) (v0 v1 v2 : V) : OR :=
 obind (rf D f_steadfastref07_May [v1, (.int .i64 5), (.int .i64 2)] s) fun x0 =>
 some (.normal, [(0, v0), (2, v2), (9, x0.1)], x0.2)
@[go_sem] theorem t7_1 : rc D b c7_1 ρ s = R7_1 b s (get ρ 0) (get ρ 1) (get ρ 2) := zr (by kernel_rfl)
@[go_sem] def R7_2 (_base : Nat) (s : St) (v0 v2 v9 : V) : OR :=
 obind (vbin .neq v9 (.int .i64 0)) fun x0 =>
 some (.normal, [(0, v0), (2, v2), (9, v9), (17, x0)], s)
@[go_sem] theorem t7_2 : rc D b c7_2 ρ s = R7_2 b s (get ρ 0) (get ρ 2) (get ρ 9) := zr (by kernel_rfl)
@[go_sem] def R7_3 (_base : Nat) (s : St) (v9 : V) : OR :=
 some (.normal, [(6, (.int .i64 0)), (7, (.int .u64 0)), (8, v9)], s)
@[go_sem] theorem t7_3 : rc D b c7_3 ρ s = R7_3 b s (get ρ 9) := zr (by kernel_rfl)
@[go_sem] def R7_4 (_base : Nat) (s : St) (v0 v2 : V) : OR :=
 obind (rf D f_steadfastref10_Store_Next [v0, v2] s) fun x0 =>
 obind (extv 0 x0.1) fun x1 =>
 obind (extv 1 x0.1) fun x2 =>
 obind (extv 2 x0.1) fun x3 =>
 some (.normal, [(2, v2), (9, x3), (10, x1), (11, x2)], x0.2)
@[go_sem] theorem t7_4 : rc D b c7_4 ρ s = R7_4 b s (get ρ 0) (get ρ 2) := zr (by kernel_rfl)
@[go_sem] def R7_5 (_base : Nat) (s : St) (v2 v9 v10 v11 : V) : OR :=
 obind (vbin .neq v9 (.int .i64 0)) fun x0 =>
 some (.normal, [(2, v2), (9, v9), (10, v10), (11, v11), (27, x0)], s)
@[go_sem] theorem t7_5 : rc D b c7_5 ρ s = R7_5 b s (get ρ 2) (get ρ 9) (get ρ 10) (get ρ 11) := zr (by kernel_rfl)
@[go_sem] def R7_6 (_base : Nat) (s : St) (v9 : V) : OR :=
 some (.normal, [(6, (.int .i64 0)), (7, (.int .u64 0)), (8, v9)], s)
@[go_sem] theorem t7_6 : rc D b c7_6 ρ s = R7_6 b s (get ρ 9) := zr (by kernel_rfl)
@[go_sem] def R7_7 (_base : Nat) (s : St) (v2 v10 v11 : V) : OR :=
 obind (setParts [(.int .i64 0), (.int .i64 0), (.int .i64 0), (.int .i64 0), (.int .i64 0)] [(0, v2), (1, (.int .i64 15)), (2, v10), (3, v11)]) fun x0 =>
 obind (rf D f_steadfastref07_Word [(.agg 40 x0)] s) fun x1 =>
 obind (extv 0 x1.1) fun x2 =>
 obind (extv 1 x1.1) fun _x3 =>
 some (.normal, [(10, v10), (12, x2)], x1.2)
@[go_sem] theorem t7_7 : rc D b c7_7 ρ s = R7_7 b s (get ρ 2) (get ρ 10) (get ρ 11) := zr (by kernel_rfl)
@[go_sem] def R7_8 (_base : Nat) (s : St) (v10 v12 : V) : OR :=
 some (.normal, [(6, v10), (7, v12), (8, (.int .i64 0))], s)
@[go_sem] theorem t7_8 : rc D b c7_8 ρ s = R7_8 b s (get ρ 10) (get ρ 12) := zr (by kernel_rfl)
@[go_sem] def R8_0 (_base : Nat) (s : St) (v0 v1 : V) : OR :=
 some (.normal, [(0, v0), (1, v1)], s)
@[go_sem] theorem t8_0 : rc D b c8_0 ρ s = R8_0 b s (get ρ 0) (get ρ 1) := zr (by kernel_rfl)
@[go_sem] def R8_1 (base : Nat) (s : St) (v0 v1 : V) : OR :=
 obind (rf D f_caps_Of [v1] s) fun x0 =>
 obind (extv 0 x0.1) fun x1 =>
 obind (extv 1 x0.1) fun x2 =>
 let x3 : V := .ptr (St.fresh x0.2 false) [] 40; let s3 : St := St.new x0.2 false (.agg 40 [(.int .i64 0), (.int .i64 0), (.int .i64 0), (.int .i64 0), (.int .i64 0)])
 obind (stv base s3 40 x1 x3) fun s4 =>
 some (.normal, [(0, v0), (1, v1), (6, x3), (7, x2)], s4)
@[go_sem] theorem t8_1 : rc D b c8_1 ρ s = R8_1 b s (get ρ 0) (get ρ 1) := zr (by kernel_rfl)
@[go_sem] def R8_2 (_base : Nat) (s : St) (v0 v1 v6 v7 : V) : OR :=
 obind (vun .not v7) fun x0 =>
 some (.normal, [(0, v0), (1, v1), (6, v6), (15, x0)], s)
@[go_sem] theorem t8_2 : rc D b c8_2 ρ s = R8_2 b s (get ρ 0) (get ρ 1) (get ρ 6) (get ρ 7) := zr (by kernel_rfl)
@[go_sem] def R8_3 (_base : Nat) (s : St) : OR :=
 some (.normal, [(4, (.int .i64 0)), (5, (.int .i64 31))], s)
@[go_sem] theorem t8_3 : rc D b c8_3 ρ s = R8_3 b s := zr (by kernel_rfl)
@[go_sem] def R8_4 (base : Nat) (s : St) (v0 v1 v6 : V) : OR :=
 obind (fadv 40 2 10 v6) fun x0 =>
 obind (ldv s 10 x0) fun x1 =>
 obind (nilv v0) fun x2 =>
 obind (fadv 43 2 48 x2) fun x3 =>
 obind (iadv 48 49 42 x3 x1) fun x4 =>
 obind (ldv s 42 x4) fun x5 =>
 obind (fadv 40 2 10 v6) fun x6 =>
 obind (ldv s 10 x6) fun x7 =>
 obind (pcallw D (pcut base [x5, x7, v1]) base f_entry_Names [x5, x7, v1] s) fun x8 =>
 some (.normal, [(6, v6), (8, x8)], s)
@[go_sem] theorem t8_4 : rc D b c8_4 ρ s = R8_4 b s (get ρ 0) (get ρ 1) (get ρ 6) := zd (by kernel_rfl)
@[go_sem] def R8_5 (_base : Nat) (s : St) (v6 v8 : V) : OR :=
 obind (vbin .neq v8 (.int .i64 0)) fun x0 =>
 some (.normal, [(6, v6), (8, v8), (28, x0)], s)
@[go_sem] theorem t8_5 : rc D b c8_5 ρ s = R8_5 b s (get ρ 6) (get ρ 8) := zr (by kernel_rfl)
@[go_sem] def R8_6 (_base : Nat) (s : St) (v8 : V) : OR :=
 some (.normal, [(4, (.int .i64 0)), (5, v8)], s)
@[go_sem] theorem t8_6 : rc D b c8_6 ρ s = R8_6 b s (get ρ 8) := zr (by kernel_rfl)
@[go_sem] def R8_7 (_base : Nat) (s : St) (v6 : V) : OR :=
 obind (fadv 40 2 10 v6) fun x0 =>
 obind (ldv s 10 x0) fun x1 =>
 some (.normal, [(4, x1), (5, (.int .i64 0))], s)
@[go_sem] theorem t8_7 : rc D b c8_7 ρ s = R8_7 b s (get ρ 6) := zr (by kernel_rfl)
@[go_sem] def R9_0 (_base : Nat) (s : St) (v0 v1 : V) : OR :=
 some (.normal, [(0, v0), (1, v1)], s)
@[go_sem] theorem t9_0 : rc D b c9_0 ρ s = R9_0 b s (get ρ 0) (get ρ 1) := zr (by kernel_rfl)
@[go_sem] def R9_1 (_base : Nat) (s : St) (v0 v1 : V) : OR :=
 obind (rf D f_objects_Store_Next [v0, v1] s) fun x0 =>
 obind (extv 0 x0.1) fun x1 =>
 obind (extv 1 x0.1) fun x2 =>
 obind (extv 2 x0.1) fun x3 =>
 some (.normal, [(0, v0), (1, v1), (6, x1), (7, x2), (8, x3)], x0.2)
@[go_sem] theorem t9_1 : rc D b c9_1 ρ s = R9_1 b s (get ρ 0) (get ρ 1) := zr (by kernel_rfl)
@[go_sem] def R9_2 (_base : Nat) (s : St) (v0 v1 v6 v7 v8 : V) : OR :=
 obind (vbin .neq v8 (.int .i64 0)) fun x0 =>
 some (.normal, [(0, v0), (1, v1), (6, v6), (7, v7), (8, v8), (18, x0)], s)
@[go_sem] theorem t9_2 : rc D b c9_2 ρ s = R9_2 b s (get ρ 0) (get ρ 1) (get ρ 6) (get ρ 7) (get ρ 8) := zr (by kernel_rfl)
@[go_sem] def R9_3 (_base : Nat) (s : St) (v8 : V) : OR :=
 some (.normal, [(4, (.int .i64 0)), (5, v8)], s)
@[go_sem] theorem t9_3 : rc D b c9_3 ρ s = R9_3 b s (get ρ 8) := zr (by kernel_rfl)
@[go_sem] def R9_4 (_base : Nat) (s : St) (v0 v1 v6 v7 : V) : OR :=
 obind (setParts (List.replicate 8 (.int .u64 0)) []) fun x0 =>
 obind (rf D f_objects_Store_lay [v0, (.agg 24 x0)] s) fun x1 =>
 obind (extv 0 x1.1) fun x2 =>
 obind (extv 1 x1.1) fun x3 =>
 some (.normal, [(0, v0), (1, v1), (6, v6), (7, v7), (8, x3), (9, x2)], x1.2)
@[go_sem] theorem t9_4 : rc D b c9_4 ρ s = R9_4 b s (get ρ 0) (get ρ 1) (get ρ 6) (get ρ 7) := zr (by kernel_rfl)
@[go_sem] def R9_5 (_base : Nat) (s : St) (v0 v1 v6 v7 v8 v9 : V) : OR :=
 obind (vbin .neq v8 (.int .i64 0)) fun x0 =>
 some (.normal, [(0, v0), (1, v1), (6, v6), (7, v7), (8, v8), (9, v9), (27, x0)], s)
@[go_sem] theorem t9_5 : rc D b c9_5 ρ s = R9_5 b s (get ρ 0) (get ρ 1) (get ρ 6) (get ρ 7) (get ρ 8) (get ρ 9) := zr (by kernel_rfl)
@[go_sem] def R9_6 (_base : Nat) (s : St) (v8 : V) : OR :=
 some (.normal, [(4, (.int .i64 0)), (5, v8)], s)
@[go_sem] theorem t9_6 : rc D b c9_6 ρ s = R9_6 b s (get ρ 8) := zr (by kernel_rfl)
@[go_sem] def R9_7 (base : Nat) (s : St) (v0 v1 v6 v7 v9 : V) : OR :=
 obind (setParts [(.int .i64 0), (.int .i64 0), (.int .i64 0)] [(0, v1), (1, v7), (2, v9)]) fun x0 =>
 obind (nilv v0) fun x1 =>
 obind (fadv 43 2 48 x1) fun x2 =>
 obind (iadv 48 49 42 x2 v6) fun x3 =>
 obind (stv base s 42 (.agg 42 x0) x3) fun s4 =>
 some (.normal, [(6, v6)], s4)
@[go_sem] theorem t9_7 : rc D b c9_7 ρ s = R9_7 b s (get ρ 0) (get ρ 1) (get ρ 6) (get ρ 7) (get ρ 9) := zr (by kernel_rfl)
@[go_sem] def R9_8 (_base : Nat) (s : St) (v6 : V) : OR :=
 some (.normal, [(4, v6), (5, (.int .i64 0))], s)
@[go_sem] theorem t9_8 : rc D b c9_8 ρ s = R9_8 b s (get ρ 6) := zr (by kernel_rfl)
@[go_sem] def R10_0 (_base : Nat) (s : St) (v0 v1 v2 : V) : OR :=
 some (.normal, [(0, v0), (1, v1), (2, v2)], s)
@[go_sem] theorem t10_0 : rc D b c10_0 ρ s = R10_0 b s (get ρ 0) (get ρ 1) (get ρ 2) := zr (by kernel_rfl)
@[go_sem] def R10_1 (base : Nat) (s : St) (v0 v1 v2 : V) : OR :=
 obind (rf D f_caps_Of [v0] s) fun x0 =>
 obind (extv 0 x0.1) fun x1 =>
 obind (extv 1 x0.1) fun x2 =>
 let x3 : V := .ptr (St.fresh x0.2 false) [] 40; let s3 : St := St.new x0.2 false (.agg 40 [(.int .i64 0), (.int .i64 0), (.int .i64 0), (.int .i64 0), (.int .i64 0)])
 obind (stv base s3 40 x1 x3) fun s4 =>
 some (.normal, [(1, v1), (2, v2), (7, x3), (8, x2)], s4)
@[go_sem] theorem t10_1 : rc D b c10_1 ρ s = R10_1 b s (get ρ 0) (get ρ 1) (get ρ 2) := zr (by kernel_rfl)
@[go_sem] def R10_2 (_base : Nat) (s : St) (v1 v2 v7 v8 : V) : OR :=
 obind (vun .not v8) fun x0 =>
 some (.normal, [(1, v1), (2, v2), (7, v7), (14, x0)], s)
@[go_sem] theorem t10_2 : rc D b c10_2 ρ s = R10_2 b s (get ρ 1) (get ρ 2) (get ρ 7) (get ρ 8) := zr (by kernel_rfl)
@[go_sem] def R10_3 (_base : Nat) (s : St) (v1 v2 v7 : V) : OR :=
 obind (fadv 40 0 10 v7) fun x0 =>
 obind (ldv s 10 x0) fun x1 =>
 obind (vbin .neq x1 v1) fun x2 =>
 some (.normal, [(2, v2), (7, v7), (14, x2)], s)
@[go_sem] theorem t10_3 : rc D b c10_3 ρ s = R10_3 b s (get ρ 1) (get ρ 2) (get ρ 7) := zr (by kernel_rfl)
@[go_sem] def R10_4 (_base : Nat) (s : St) : OR :=
 some (.normal, [(6, (.int .i64 31))], s)
@[go_sem] theorem t10_4 : rc D b c10_4 ρ s = R10_4 b s := zr (by kernel_rfl)
@[go_sem] def R10_5 (_base : Nat) (s : St) (v2 v7 : V) : OR :=
 obind (fadv 40 1 10 v7) fun x0 =>
 obind (ldv s 10 x0) fun x1 =>
 obind (vbin .andNot v2 x1) fun x2 =>
 obind (vbin .neq x2 (.int .i64 0)) fun x3 =>
 some (.normal, [(21, x3)], s)
@[go_sem] theorem t10_5 : rc D b c10_5 ρ s = R10_5 b s (get ρ 2) (get ρ 7) := zr (by kernel_rfl)
@[go_sem] def R10_6 (_base : Nat) (s : St) : OR :=
 some (.normal, [(6, (.int .i64 32))], s)
@[go_sem] theorem t10_6 : rc D b c10_6 ρ s = R10_6 b s := zr (by kernel_rfl)
@[go_sem] def R10_7 (_base : Nat) (s : St) : OR :=
 some (.normal, [(6, (.int .i64 0))], s)
@[go_sem] theorem t10_7 : rc D b c10_7 ρ s = R10_7 b s := zr (by kernel_rfl)
@[go_sem] def R11_0 (_base : Nat) (s : St) (v0 : V) : OR :=
 if V.ok v0 && mayNew false v0 then let x0 : V := .ptr (St.fresh s false) [] (V.tag v0); let s0 : St := St.new s false v0
 some (.normal, [(1, x0)], s0)
 else none
@[go_sem] theorem t11_0 : rc D b c11_0 ρ s = R11_0 b s (get ρ 0) := zr (by kernel_rfl)
@[go_sem] def R11_1 (_base : Nat) (s : St) (v1 : V) : OR :=
 obind (fadv 40 0 10 v1) fun x0 =>
 obind (ldv s 10 x0) fun x1 =>
 obind (vbin .lss x1 (.int .i64 1)) fun x2 =>
 oguard x2 false (
   obind (fadv 40 0 10 v1) fun x3 =>
   obind (ldv s 10 x3) fun x4 =>
   obind (vbin .gtr x4 (.int .i64 6)) fun x5 =>
   oguard x5 false (
     obind (fadv 40 1 10 v1) fun x6 =>
     obind (ldv s 10 x6) fun x7 =>
     obind (vbin .lss x7 (.int .i64 0)) fun x8 =>
     oguard x8 false (
       obind (fadv 40 1 10 v1) fun x9 =>
       obind (ldv s 10 x9) fun x10 =>
       obind (vbin .gtr x10 (.int .i64 15)) fun x11 =>
       oguard x11 false (
         obind (fadv 40 2 10 v1) fun x12 =>
         obind (ldv s 10 x12) fun x13 =>
         obind (vbin .lss x13 (.int .i64 0)) fun x14 =>
         oguard x14 false (
           obind (fadv 40 2 10 v1) fun x15 =>
           obind (ldv s 10 x15) fun x16 =>
           obind (vbin .geq x16 (.int .i64 49)) fun x17 =>
           oguard x17 false (
             obind (fadv 40 3 10 v1) fun x18 =>
             obind (ldv s 10 x18) fun x19 =>
             obind (vbin .lss x19 (.int .i64 0)) fun x20 =>
             oguard x20 false (
               obind (fadv 40 3 10 v1) fun x21 =>
               obind (ldv s 10 x21) fun x22 =>
               obind (vbin .gtr x22 (.int .i64 16777215)) fun x23 =>
               oguard x23 false (
                 obind (fadv 40 4 10 v1) fun x24 =>
                 obind (ldv s 10 x24) fun x25 =>
                 obind (vbin .lss x25 (.int .i64 0)) fun x26 =>
                 oguard x26 false (
                   obind (fadv 40 4 10 v1) fun x27 =>
                   obind (ldv s 10 x27) fun x28 =>
                   obind (vbin .gtr x28 (.int .i64 65535)) fun x29 =>
                   some (.normal, [(1, v1), (53, x29)], s)) (
                   some (.normal, [(1, v1), (53, (.bool true))], s)) (
                   none)) (
                 some (.normal, [(1, v1), (53, (.bool true))], s)) (
                 none)) (
               some (.normal, [(1, v1), (53, (.bool true))], s)) (
               none)) (
             some (.normal, [(1, v1), (53, (.bool true))], s)) (
             none)) (
           some (.normal, [(1, v1), (53, (.bool true))], s)) (
           none)) (
         some (.normal, [(1, v1), (53, (.bool true))], s)) (
         none)) (
       some (.normal, [(1, v1), (53, (.bool true))], s)) (
       none)) (
     some (.normal, [(1, v1), (53, (.bool true))], s)) (
     none)) (
   some (.normal, [(1, v1), (53, (.bool true))], s)) (
   none)
@[go_sem] theorem t11_1 : rc D b c11_1 ρ s = R11_1 b s (get ρ 1) := zr (by kernel_rfl)
@[go_sem] def R11_2 (_base : Nat) (s : St) : OR :=
 some (.normal, [(2, (.int .u64 0)), (3, (.int .i64 1))], s)
@[go_sem] theorem t11_2 : rc D b c11_2 ρ s = R11_2 b s := zr (by kernel_rfl)
@[go_sem] def R11_3 (_base : Nat) (s : St) (v1 : V) : OR :=
 obind (fadv 40 0 10 v1) fun x0 =>
 obind (ldv s 10 x0) fun x1 =>
 obind (vbin .eql x1 (.int .i64 5)) fun x2 =>
 oguard x2 false (
   obind (fadv 40 0 10 v1) fun x3 =>
   obind (ldv s 10 x3) fun x4 =>
   obind (vbin .eql x4 (.int .i64 6)) fun x5 =>
   oguard x5 true (
     obind (fadv 40 2 10 v1) fun x6 =>
     obind (ldv s 10 x6) fun x7 =>
     obind (vbin .neq x7 (.int .i64 0)) fun x8 =>
     oguard x8 false (
       obind (fadv 40 3 10 v1) fun x9 =>
       obind (ldv s 10 x9) fun x10 =>
       obind (vbin .neq x10 (.int .i64 0)) fun x11 =>
       some (.normal, [(1, v1), (71, x11)], s)) (
       some (.normal, [(1, v1), (71, (.bool true))], s)) (
       none)) (
     some (.normal, [(1, v1), (71, (.bool false))], s)) (
     none)) (
   obind (fadv 40 2 10 v1) fun x3 =>
   obind (ldv s 10 x3) fun x4 =>
   obind (vbin .neq x4 (.int .i64 0)) fun x5 =>
   oguard x5 false (
     obind (fadv 40 3 10 v1) fun x6 =>
     obind (ldv s 10 x6) fun x7 =>
     obind (vbin .neq x7 (.int .i64 0)) fun x8 =>
     some (.normal, [(1, v1), (71, x8)], s)) (
     some (.normal, [(1, v1), (71, (.bool true))], s)) (
     none)) (
   none)
@[go_sem] theorem t11_3 : rc D b c11_3 ρ s = R11_3 b s (get ρ 1) := zr (by kernel_rfl)
@[go_sem] def R11_4 (_base : Nat) (s : St) : OR :=
 some (.normal, [(2, (.int .u64 0)), (3, (.int .i64 1))], s)
@[go_sem] theorem t11_4 : rc D b c11_4 ρ s = R11_4 b s := zr (by kernel_rfl)
@[go_sem] def R11_5 (_base : Nat) (s : St) (v1 : V) : OR :=
 obind (fadv 40 0 10 v1) fun x0 =>
 obind (ldv s 10 x0) fun x1 =>
 obind (convv .u64 x1) fun x2 =>
 obind (rf D f_steadfastref01_With [(.int .u64 0), (.int .i64 0), (.int .i64 4), x2] s) fun x3 =>
 obind (extv 0 x3.1) fun x4 =>
 obind (extv 1 x3.1) fun _x5 =>
 some (.normal, [(1, v1), (4, x4)], x3.2)
@[go_sem] theorem t11_5 : rc D b c11_5 ρ s = R11_5 b s (get ρ 1) := zr (by kernel_rfl)
@[go_sem] def R11_6 (_base : Nat) (s : St) (v1 v4 : V) : OR :=
 obind (fadv 40 1 10 v1) fun x0 =>
 obind (ldv s 10 x0) fun x1 =>
 obind (convv .u64 x1) fun x2 =>
 obind (rf D f_steadfastref01_With [v4, (.int .i64 4), (.int .i64 4), x2] s) fun x3 =>
 obind (extv 0 x3.1) fun x4 =>
 obind (extv 1 x3.1) fun _x5 =>
 some (.normal, [(1, v1), (4, x4)], x3.2)
@[go_sem] theorem t11_6 : rc D b c11_6 ρ s = R11_6 b s (get ρ 1) (get ρ 4) := zr (by kernel_rfl)
@[go_sem] def R11_7 (_base : Nat) (s : St) (v1 v4 : V) : OR :=
 obind (fadv 40 2 10 v1) fun x0 =>
 obind (ldv s 10 x0) fun x1 =>
 obind (convv .u64 x1) fun x2 =>
 obind (rf D f_steadfastref01_With [v4, (.int .i64 8), (.int .i64 16), x2] s) fun x3 =>
 obind (extv 0 x3.1) fun x4 =>
 obind (extv 1 x3.1) fun _x5 =>
 some (.normal, [(1, v1), (4, x4)], x3.2)
@[go_sem] theorem t11_7 : rc D b c11_7 ρ s = R11_7 b s (get ρ 1) (get ρ 4) := zr (by kernel_rfl)
@[go_sem] def R11_8 (_base : Nat) (s : St) (v1 v4 : V) : OR :=
 obind (fadv 40 3 10 v1) fun x0 =>
 obind (ldv s 10 x0) fun x1 =>
 obind (convv .u64 x1) fun x2 =>
 obind (rf D f_steadfastref01_With [v4, (.int .i64 24), (.int .i64 24), x2] s) fun x3 =>
 obind (extv 0 x3.1) fun x4 =>
 obind (extv 1 x3.1) fun _x5 =>
 some (.normal, [(1, v1), (4, x4)], x3.2)
@[go_sem] theorem t11_8 : rc D b c11_8 ρ s = R11_8 b s (get ρ 1) (get ρ 4) := zr (by kernel_rfl)
@[go_sem] def R11_9 (_base : Nat) (s : St) (v1 v4 : V) : OR :=
 obind (fadv 40 4 10 v1) fun x0 =>
 obind (ldv s 10 x0) fun x1 =>
 obind (convv .u64 x1) fun x2 =>
 obind (rf D f_steadfastref01_With [v4, (.int .i64 48), (.int .i64 16), x2] s) fun x3 =>
 obind (extv 0 x3.1) fun x4 =>
 obind (extv 1 x3.1) fun _x5 =>
 some (.normal, [(4, x4)], x3.2)
@[go_sem] theorem t11_9 : rc D b c11_9 ρ s = R11_9 b s (get ρ 1) (get ρ 4) := zr (by kernel_rfl)
@[go_sem] def R11_10 (_base : Nat) (s : St) (v4 : V) : OR :=
 some (.normal, [(2, v4), (3, (.int .i64 0))], s)
@[go_sem] theorem t11_10 : rc D b c11_10 ρ s = R11_10 b s (get ρ 4) := zr (by kernel_rfl)
@[go_sem] def R12_0 (_base : Nat) (s : St) (v0 v1 v2 : V) : OR :=
 some (.normal, [(0, v0), (1, v1), (2, v2)], s)
@[go_sem] theorem t12_0 : rc D b c12_0 ρ s = R12_0 b s (get ρ 0) (get ρ 1) (get ρ 2) := zr (by kernel_rfl)
@[go_sem] def R12_1 (_base : Nat) (s : St) (v0 v1 v2 : V) : OR :=
 obind (rf D f_bank_by [v1] s) fun x0 =>
 some (.normal, [(0, v0), (2, v2), (8, x0.1)], x0.2)
@[go_sem] theorem t12_1 : rc D b c12_1 ρ s = R12_1 b s (get ρ 0) (get ρ 1) (get ρ 2) := zr (by kernel_rfl)
@[go_sem] def R12_2 (_base : Nat) (s : St) (v0 v2 v8 : V) : OR :=
 obind (vbin .neq v8 (.int .i64 0)) fun x0 =>
 some (.normal, [(0, v0), (2, v2), (8, v8), (14, x0)], s)
@[go_sem] theorem t12_2 : rc D b c12_2 ρ s = R12_2 b s (get ρ 0) (get ρ 2) (get ρ 8) := zr (by kernel_rfl)
@[go_sem] def R12_3 (_base : Nat) (s : St) (v8 : V) : OR :=
 some (.normal, [(6, (.int .i64 0)), (7, v8)], s)
@[go_sem] theorem t12_3 : rc D b c12_3 ρ s = R12_3 b s (get ρ 8) := zr (by kernel_rfl)
@[go_sem] def R12_4 (base : Nat) (s : St) (v0 v2 : V) : OR :=
 obind (rf D f_caps_Of [v2] s) fun x0 =>
 obind (extv 0 x0.1) fun x1 =>
 obind (extv 1 x0.1) fun x2 =>
 let x3 : V := .ptr (St.fresh x0.2 false) [] 40; let s3 : St := St.new x0.2 false (.agg 40 [(.int .i64 0), (.int .i64 0), (.int .i64 0), (.int .i64 0), (.int .i64 0)])
 obind (stv base s3 40 x1 x3) fun s4 =>
 some (.normal, [(0, v0), (2, v2), (9, x3), (10, x2)], s4)
@[go_sem] theorem t12_4 : rc D b c12_4 ρ s = R12_4 b s (get ρ 0) (get ρ 2) := zr (by kernel_rfl)
@[go_sem] def R12_5 (_base : Nat) (s : St) (v0 v2 v9 v10 : V) : OR :=
 obind (vun .not v10) fun x0 =>
 some (.normal, [(0, v0), (2, v2), (9, v9), (21, x0)], s)
@[go_sem] theorem t12_5 : rc D b c12_5 ρ s = R12_5 b s (get ρ 0) (get ρ 2) (get ρ 9) (get ρ 10) := zr (by kernel_rfl)
@[go_sem] def R12_6 (_base : Nat) (s : St) (v0 v2 v9 : V) : OR :=
 obind (fadv 40 0 10 v9) fun x0 =>
 obind (ldv s 10 x0) fun x1 =>
 obind (vbin .neq x1 (.int .i64 1)) fun x2 =>
 oguard x2 true (
   obind (fadv 40 0 10 v9) fun x3 =>
   obind (ldv s 10 x3) fun x4 =>
   obind (vbin .neq x4 (.int .i64 2)) fun x5 =>
   some (.normal, [(0, v0), (2, v2), (9, v9), (21, x5)], s)) (
   some (.normal, [(0, v0), (2, v2), (9, v9), (21, (.bool false))], s)) (
   none)
@[go_sem] theorem t12_6 : rc D b c12_6 ρ s = R12_6 b s (get ρ 0) (get ρ 2) (get ρ 9) := zr (by kernel_rfl)
@[go_sem] def R12_7 (_base : Nat) (s : St) : OR :=
 some (.normal, [(6, (.int .i64 0)), (7, (.int .i64 31))], s)
@[go_sem] theorem t12_7 : rc D b c12_7 ρ s = R12_7 b s := zr (by kernel_rfl)
@[go_sem] def R12_8 (_base : Nat) (s : St) (v0 v2 v9 : V) : OR :=
 obind (fadv 40 1 10 v9) fun x0 =>
 obind (ldv s 10 x0) fun x1 =>
 obind (vbin .and x1 (.int .i64 2)) fun x2 =>
 obind (vbin .eql x2 (.int .i64 0)) fun x3 =>
 some (.normal, [(0, v0), (2, v2), (32, x3)], s)
@[go_sem] theorem t12_8 : rc D b c12_8 ρ s = R12_8 b s (get ρ 0) (get ρ 2) (get ρ 9) := zr (by kernel_rfl)
@[go_sem] def R12_9 (_base : Nat) (s : St) : OR :=
 some (.normal, [(6, (.int .i64 0)), (7, (.int .i64 32))], s)
@[go_sem] theorem t12_9 : rc D b c12_9 ρ s = R12_9 b s := zr (by kernel_rfl)
@[go_sem] def R12_10 (_base : Nat) (s : St) (v0 v2 : V) : OR :=
 obind (rf D f_objects_Store_Names [v0, v2] s) fun x0 =>
 obind (extv 0 x0.1) fun x1 =>
 obind (extv 1 x0.1) fun x2 =>
 some (.normal, [(6, x1), (7, x2)], x0.2)
@[go_sem] theorem t12_10 : rc D b c12_10 ρ s = R12_10 b s (get ρ 0) (get ρ 2) := zr (by kernel_rfl)
@[go_sem] def R13_0 (_base : Nat) (s : St) (v0 : V) : OR :=
 some (.normal, [(0, v0)], s)
@[go_sem] theorem t13_0 : rc D b c13_0 ρ s = R13_0 b s (get ρ 0) := zr (by kernel_rfl)
@[go_sem] def R13_1 (_base : Nat) (s : St) (v0 : V) : OR :=
 obind (V.slen false v0) fun x0 =>
 obind (rf D f_nvm_New [(.int .i64 x0)] s) fun x1 =>
 obind (extv 0 x1.1) fun x2 =>
 obind (extv 1 x1.1) fun x3 =>
 some (.normal, [(0, v0), (4, x2), (5, x3)], x1.2)
@[go_sem] theorem t13_1 : rc D b c13_1 ρ s = R13_1 b s (get ρ 0) := zr (by kernel_rfl)
@[go_sem] def R13_2 (_base : Nat) (s : St) (v0 v4 v5 : V) : OR :=
 obind (vbin .neq v5 (.int .i64 0)) fun x0 =>
 some (.normal, [(0, v0), (4, v4), (5, v5), (15, x0)], s)
@[go_sem] theorem t13_2 : rc D b c13_2 ρ s = R13_2 b s (get ρ 0) (get ρ 4) (get ρ 5) := zr (by kernel_rfl)
@[go_sem] def R13_3 (_base : Nat) (s : St) (v5 : V) : OR :=
 some (.normal, [(2, .nilp), (3, v5)], s)
@[go_sem] theorem t13_3 : rc D b c13_3 ρ s = R13_3 b s (get ρ 5) := zr (by kernel_rfl)
@[go_sem] def R13_4 (_base : Nat) (s : St) (v0 v4 : V) : OR :=
 obind (V.slen false v0) fun x0 =>
 some (.normal, [(4, v4), (17, v0), (18, (.int .i64 x0)), (19, (.int .i64 0))], s)
@[go_sem] theorem t13_4 : rc D b c13_4 ρ s = R13_4 b s (get ρ 0) (get ρ 4) := zr (by kernel_rfl)
@[go_sem] def R13_5 (_base : Nat) (s : St) (v4 v17 v18 v19 : V) : OR :=
 obind (vbin .lss v19 v18) fun x0 =>
 some (.normal, [(4, v4), (17, v17), (18, v18), (19, v19), (20, x0)], s)
@[go_sem] theorem t13_5 : rc D b c13_5 ρ s = R13_5 b s (get ρ 4) (get ρ 17) (get ρ 18) (get ρ 19) := zr (by kernel_rfl)
@[go_sem] def R13_6 (base : Nat) (s : St) (v4 v17 v18 v19 : V) : OR :=
 obind (sadv 24 v17 v19) fun x0 =>
 obind (ldv s 24 x0) fun x1 =>
 let x2 : V := .ptr (St.fresh s false) [] 24; let s2 : St := St.new s false (.agg 24 (List.replicate 8 (.int .u64 0)))
 obind (stv base s2 24 x1 x2) fun s3 =>
 some (.normal, [(4, v4), (6, v19), (7, x2), (17, v17), (18, v18), (19, v19)], s3)
@[go_sem] theorem t13_6 : rc D b c13_6 ρ s = R13_6 b s (get ρ 4) (get ρ 17) (get ρ 18) (get ρ 19) := zr (by kernel_rfl)
@[go_sem] def R13_7 (base : Nat) (s : St) (v4 v6 v7 v17 v18 v19 : V) : OR :=
 obind (nilv v4) fun x0 =>
 obind (fadv 59 0 1 x0) fun x1 =>
 obind (ldv s 1 x1) fun x2 =>
 obind (nilv v4) fun x3 =>
 obind (fadv 59 0 1 x3) fun x4 =>
 obind (ldv s 1 x4) fun x5 =>
 obind (ldv s 24 v7) fun x6 =>
 obind (ldv s 24 v7) fun x7 =>
 obind (sadv 55 x2 v6) fun x8 =>
 obind (fadv 55 0 24 x8) fun x9 =>
 obind (stav base s 24 x6 x9 [v7]) fun s10 =>
 obind (sadv 55 x5 v6) fun x11 =>
 obind (fadv 55 1 24 x11) fun x12 =>
 obind (stv base s10 24 x7 x12) fun s13 =>
 some (.normal, [(4, v4), (17, v17), (18, v18), (19, v19)], s13)
@[go_sem] theorem t13_7 : rc D b c13_7 ρ s = R13_7 b s (get ρ 4) (get ρ 6) (get ρ 7) (get ρ 17) (get ρ 18) (get ρ 19) := zd (by kernel_rfl)
@[go_sem] def R13_8 (_base : Nat) (s : St) (v4 v17 v18 v19 : V) : OR :=
 obind (vbin .add v19 (.int .i64 1)) fun x0 =>
 some (.normal, [(4, v4), (17, v17), (18, v18), (19, x0)], s)
@[go_sem] theorem t13_8 : rc D b c13_8 ρ s = R13_8 b s (get ρ 4) (get ρ 17) (get ρ 18) (get ρ 19) := zr (by kernel_rfl)
@[go_sem] def R13_9 (_base : Nat) (s : St) (v4 : V) : OR :=
 some (.normal, [(2, v4), (3, (.int .i64 0))], s)
@[go_sem] theorem t13_9 : rc D b c13_9 ρ s = R13_9 b s (get ρ 4) := zr (by kernel_rfl)
@[go_sem] def R14_0 (_base : Nat) (s : St) (v0 : V) : OR :=
 some (.normal, [(0, v0)], s)
@[go_sem] theorem t14_0 : rc D b c14_0 ρ s = R14_0 b s (get ρ 0) := zr (by kernel_rfl)
@[go_sem] def R14_1 (_base : Nat) (s : St) (v0 : V) : OR :=
 obind (V.slen false v0) fun x0 =>
 obind (vbin .lss (.int .i64 x0) (.int .i64 64)) fun x1 =>
 oguard x1 false (
   obind (V.slen false v0) fun x2 =>
   obind (vbin .gtr (.int .i64 x2) (.int .i64 1024)) fun x3 =>
   some (.normal, [(0, v0), (11, x3)], s)) (
   some (.normal, [(0, v0), (11, (.bool true))], s)) (
   none)
@[go_sem] theorem t14_1 : rc D b c14_1 ρ s = R14_1 b s (get ρ 0) := zr (by kernel_rfl)
@[go_sem] def R14_2 (_base : Nat) (s : St) : OR :=
 some (.normal, [(2, .nilp), (3, (.int .i64 1))], s)
@[go_sem] theorem t14_2 : rc D b c14_2 ρ s = R14_2 b s := zr (by kernel_rfl)
@[go_sem] def R14_3 (base : Nat) (s : St) (v0 : V) : OR :=
 obind (bslv true 58 24 0 (.agg 24 (List.replicate 8 (.int .u64 0))) s []) fun x0 =>
 obind (vappend base true 58 24 x0.1 v0 x0.2) fun x1 =>
 obind (V.slen false v0) fun x2 =>
 obind (mkslv true 53 1 .nils x1.2 (.int .i64 x2) (.int .i64 x2)) fun x3 =>
 obind (setParts [.nils, .nils, (.bool false), (.int .i64 0), (.int .i64 0)] [(0, x1.1), (1, x3.1), (3, (.int .i64 (-1)))]) fun x4 =>
 if V.ok (.agg 33 x4) && mayNew true (.agg 33 x4) then let x5 : V := .ptr (St.fresh x3.2 true) [] (V.tag (.agg 33 x4)); let s5 : St := St.new x3.2 true (.agg 33 x4)
 some (.normal, [(2, x5), (3, (.int .i64 0))], s5)
 else none
@[go_sem] theorem t14_3 : rc D b c14_3 ρ s = R14_3 b s (get ρ 0) := zd (by kernel_rfl)
@[go_sem] def R15_0 (_base : Nat) (s : St) (v0 v1 v2 v3 : V) : OR :=
 if V.ok v2 && mayNew false v2 then let x0 : V := .ptr (St.fresh s false) [] (V.tag v2); let s0 : St := St.new s false v2
 if V.ok v3 && mayNew false v3 then let x1 : V := .ptr (St.fresh s0 false) [] (V.tag v3); let s1 : St := St.new s0 false v3
 some (.normal, [(0, v0), (1, v1), (6, x0), (7, x1)], s1)
 else none
 else none
@[go_sem] theorem t15_0 : rc D b c15_0 ρ s = R15_0 b s (get ρ 0) (get ρ 1) (get ρ 2) (get ρ 3) := zr (by kernel_rfl)
@[go_sem] def R15_1 (_base : Nat) (s : St) (v0 v1 v6 v7 : V) : OR :=
 obind (rf D f_nvm_Memory_Lines [v0] s) fun x0 =>
 obind (rf D f_frames_New [v1, x0.1] x0.2) fun x1 =>
 obind (extv 0 x1.1) fun x2 =>
 obind (extv 1 x1.1) fun x3 =>
 some (.normal, [(0, v0), (6, v6), (7, v7), (10, x2), (11, x3)], x1.2)
@[go_sem] theorem t15_1 : rc D b c15_1 ρ s = R15_1 b s (get ρ 0) (get ρ 1) (get ρ 6) (get ρ 7) := zr (by kernel_rfl)
@[go_sem] def R15_2 (_base : Nat) (s : St) (v0 v6 v7 v10 v11 : V) : OR :=
 obind (vbin .neq v11 (.int .i64 0)) fun x0 =>
 some (.normal, [(0, v0), (6, v6), (7, v7), (10, v10), (11, v11), (25, x0)], s)
@[go_sem] theorem t15_2 : rc D b c15_2 ρ s = R15_2 b s (get ρ 0) (get ρ 6) (get ρ 7) (get ρ 10) (get ρ 11) := zr (by kernel_rfl)
@[go_sem] def R15_3 (_base : Nat) (s : St) (v11 : V) : OR :=
 some (.normal, [(8, .nilp), (9, v11)], s)
@[go_sem] theorem t15_3 : rc D b c15_3 ρ s = R15_3 b s (get ρ 11) := zr (by kernel_rfl)
@[go_sem] def R15_4 (_base : Nat) (s : St) (v0 v6 v7 v10 : V) : OR :=
 obind (ldv s 48 v6) fun x0 =>
 obind (ldv s 48 v6) fun x1 =>
 obind (ldv s 50 v7) fun x2 =>
 obind (setParts [.nilp, .nilp, (.agg 48 (List.replicate 49 (.agg 42 [(.int .i64 0), (.int .i64 0), (.int .i64 0)]))), (.agg 48 (List.replicate 49 (.agg 42 [(.int .i64 0), (.int .i64 0), (.int .i64 0)]))), (.agg 50 (List.replicate 8 (.int .i64 0))), (.agg 48 (List.replicate 49 (.agg 42 [(.int .i64 0), (.int .i64 0), (.int .i64 0)]))), (.bool false), (.agg 82 (List.replicate 1024 (.bool false)))] [(0, v0), (1, v10), (2, x0), (3, x1), (4, x2)]) fun x3 =>
 if V.ok (.agg 43 x3) && mayNew true (.agg 43 x3) then let x4 : V := .ptr (St.fresh s true) [] (V.tag (.agg 43 x3)); let s4 : St := St.new s true (.agg 43 x3)
 some (.normal, [(6, v6), (7, v7), (10, v10), (12, x4)], s4)
 else none
@[go_sem] theorem t15_4 : rc D b c15_4 ρ s = R15_4 b s (get ρ 0) (get ρ 6) (get ρ 7) (get ρ 10) := zr (by kernel_rfl)
@[go_sem] def R15_5 (_base : Nat) (s : St) (v6 v7 v10 v12 : V) : OR :=
 obind (ldv s 48 v6) fun x0 =>
 some (.normal, [(7, v7), (10, v10), (12, v12), (34, x0), (35, (.int .i64 0))], s)
@[go_sem] theorem t15_5 : rc D b c15_5 ρ s = R15_5 b s (get ρ 6) (get ρ 7) (get ρ 10) (get ρ 12) := zr (by kernel_rfl)
@[go_sem] def R15_6 (_base : Nat) (s : St) (v7 v10 v12 v34 v35 : V) : OR :=
 obind (vbin .lss v35 (.int .i64 49)) fun x0 =>
 some (.normal, [(7, v7), (10, v10), (12, v12), (34, v34), (35, v35), (36, x0)], s)
@[go_sem] theorem t15_6 : rc D b c15_6 ρ s = R15_6 b s (get ρ 7) (get ρ 10) (get ρ 12) (get ρ 34) (get ρ 35) := zr (by kernel_rfl)
@[go_sem] def R15_7 (base : Nat) (s : St) (v7 v10 v12 v34 v35 : V) : OR :=
 obind (idxv 48 49 v34 v35) fun x0 =>
 let x1 : V := .ptr (St.fresh s false) [] 42; let s1 : St := St.new s false (.agg 42 [(.int .i64 0), (.int .i64 0), (.int .i64 0)])
 obind (stv base s1 42 x0 x1) fun s2 =>
 some (.normal, [(7, v7), (10, v10), (12, v12), (14, x1), (34, v34), (35, v35)], s2)
@[go_sem] theorem t15_7 : rc D b c15_7 ρ s = R15_7 b s (get ρ 7) (get ρ 10) (get ρ 12) (get ρ 34) (get ρ 35) := zr (by kernel_rfl)
@[go_sem] def R15_8 (_base : Nat) (s : St) (v7 v10 v12 v14 v34 v35 : V) : OR :=
 obind (fadv 42 0 10 v14) fun x0 =>
 obind (ldv s 10 x0) fun x1 =>
 obind (vbin .neq x1 (.int .i64 0)) fun x2 =>
 oguard x2 true (
   obind (fadv 42 2 10 v14) fun x3 =>
   obind (ldv s 10 x3) fun x4 =>
   obind (rf D f_frames_Frames_Take [v10, x4] s) fun x5 =>
   obind (vbin .neq x5.1 (.int .i64 0)) fun x6 =>
   some (.normal, [(7, v7), (10, v10), (12, v12), (34, v34), (35, v35), (47, x6)], x5.2)) (
   some (.normal, [(7, v7), (10, v10), (12, v12), (34, v34), (35, v35), (47, (.bool false))], s)) (
   none)
@[go_sem] theorem t15_8 : rc D b c15_8 ρ s = R15_8 b s (get ρ 7) (get ρ 10) (get ρ 12) (get ρ 14) (get ρ 34) (get ρ 35) := zr (by kernel_rfl)
@[go_sem] def R15_9 (_base : Nat) (s : St) : OR :=
 some (.normal, [(8, .nilp), (9, (.int .i64 21))], s)
@[go_sem] theorem t15_9 : rc D b c15_9 ρ s = R15_9 b s := zr (by kernel_rfl)
@[go_sem] def R15_10 (_base : Nat) (s : St) (v7 v10 v12 v34 v35 : V) : OR :=
 obind (vbin .add v35 (.int .i64 1)) fun x0 =>
 some (.normal, [(7, v7), (10, v10), (12, v12), (34, v34), (35, x0)], s)
@[go_sem] theorem t15_10 : rc D b c15_10 ρ s = R15_10 b s (get ρ 7) (get ρ 10) (get ρ 12) (get ρ 34) (get ρ 35) := zr (by kernel_rfl)
@[go_sem] def R15_11 (_base : Nat) (s : St) (v7 v10 v12 : V) : OR :=
 obind (ldv s 50 v7) fun x0 =>
 some (.normal, [(10, v10), (12, v12), (49, x0), (50, (.int .i64 0))], s)
@[go_sem] theorem t15_11 : rc D b c15_11 ρ s = R15_11 b s (get ρ 7) (get ρ 10) (get ρ 12) := zr (by kernel_rfl)
@[go_sem] def R15_12 (_base : Nat) (s : St) (v10 v12 v49 v50 : V) : OR :=
 obind (vbin .lss v50 (.int .i64 8)) fun x0 =>
 some (.normal, [(10, v10), (12, v12), (49, v49), (50, v50), (51, x0)], s)
@[go_sem] theorem t15_12 : rc D b c15_12 ρ s = R15_12 b s (get ρ 10) (get ρ 12) (get ρ 49) (get ρ 50) := zr (by kernel_rfl)
@[go_sem] def R15_13 (_base : Nat) (s : St) (v10 v12 v49 v50 : V) : OR :=
 obind (idxv 50 8 v49 v50) fun x0 =>
 some (.normal, [(10, v10), (12, v12), (16, x0), (49, v49), (50, v50)], s)
@[go_sem] theorem t15_13 : rc D b c15_13 ρ s = R15_13 b s (get ρ 10) (get ρ 12) (get ρ 49) (get ρ 50) := zr (by kernel_rfl)
@[go_sem] def R15_14 (_base : Nat) (s : St) (v10 v12 v16 v49 v50 : V) : OR :=
 obind (rf D f_frames_Frames_Take [v10, v16] s) fun x0 =>
 obind (vbin .neq x0.1 (.int .i64 0)) fun x1 =>
 some (.normal, [(10, v10), (12, v12), (49, v49), (50, v50), (56, x1)], x0.2)
@[go_sem] theorem t15_14 : rc D b c15_14 ρ s = R15_14 b s (get ρ 10) (get ρ 12) (get ρ 16) (get ρ 49) (get ρ 50) := zr (by kernel_rfl)
@[go_sem] def R15_15 (_base : Nat) (s : St) : OR :=
 some (.normal, [(8, .nilp), (9, (.int .i64 21))], s)
@[go_sem] theorem t15_15 : rc D b c15_15 ρ s = R15_15 b s := zr (by kernel_rfl)
@[go_sem] def R15_16 (_base : Nat) (s : St) (v10 v12 v49 v50 : V) : OR :=
 obind (vbin .add v50 (.int .i64 1)) fun x0 =>
 some (.normal, [(10, v10), (12, v12), (49, v49), (50, x0)], s)
@[go_sem] theorem t15_16 : rc D b c15_16 ρ s = R15_16 b s (get ρ 10) (get ρ 12) (get ρ 49) (get ρ 50) := zr (by kernel_rfl)
@[go_sem] def R15_17 (_base : Nat) (s : St) (v12 : V) : OR :=
 obind (rf D f_objects_Store_share [v12] s) fun x0 =>
 some (.normal, [(12, v12)], x0.2)
@[go_sem] theorem t15_17 : rc D b c15_17 ρ s = R15_17 b s (get ρ 12) := zr (by kernel_rfl)
@[go_sem] def R15_18 (_base : Nat) (s : St) (v12 : V) : OR :=
 some (.normal, [(8, v12), (9, (.int .i64 0))], s)
@[go_sem] theorem t15_18 : rc D b c15_18 ρ s = R15_18 b s (get ρ 12) := zr (by kernel_rfl)
@[go_sem] def R16_0 (_base : Nat) (s : St) (v0 v1 v2 v3 : V) : OR :=
 if V.ok v2 && mayNew false v2 then let x0 : V := .ptr (St.fresh s false) [] (V.tag v2); let s0 : St := St.new s false v2
 if V.ok v3 && mayNew false v3 then let x1 : V := .ptr (St.fresh s0 false) [] (V.tag v3); let s1 : St := St.new s0 false v3
 some (.normal, [(0, v0), (1, v1), (6, x0), (7, x1)], s1)
 else none
 else none
@[go_sem] theorem t16_0 : rc D b c16_0 ρ s = R16_0 b s (get ρ 0) (get ρ 1) (get ρ 2) (get ρ 3) := zr (by kernel_rfl)
@[go_sem] def R16_1 (_base : Nat) (s : St) (v0 v1 v6 v7 : V) : OR :=
 obind (nilv v0) fun x0 =>
 obind (fadv 33 0 1 x0) fun x1 =>
 obind (ldv s 1 x1) fun x2 =>
 obind (V.slen false x2) fun x3 =>
 obind (rf D f_steadfastref04_New [v1, (.int .i64 x3)] s) fun x4 =>
 obind (extv 0 x4.1) fun x5 =>
 obind (extv 1 x4.1) fun x6 =>
 some (.normal, [(0, v0), (6, v6), (7, v7), (10, x5), (11, x6)], x4.2)
@[go_sem] theorem t16_1 : rc D b c16_1 ρ s = R16_1 b s (get ρ 0) (get ρ 1) (get ρ 6) (get ρ 7) := zr (by kernel_rfl)
@[go_sem] def R16_2 (_base : Nat) (s : St) (v0 v6 v7 v10 v11 : V) : OR :=
 obind (vbin .neq v11 (.int .i64 0)) fun x0 =>
 some (.normal, [(0, v0), (6, v6), (7, v7), (10, v10), (25, x0)], s)
@[go_sem] theorem t16_2 : rc D b c16_2 ρ s = R16_2 b s (get ρ 0) (get ρ 6) (get ρ 7) (get ρ 10) (get ρ 11) := zr (by kernel_rfl)
@[go_sem] def R16_3 (_base : Nat) (s : St) : OR :=
 some (.normal, [(8, .nilp), (9, (.int .i64 1))], s)
@[go_sem] theorem t16_3 : rc D b c16_3 ρ s = R16_3 b s := zr (by kernel_rfl)
@[go_sem] def R16_4 (base : Nat) (s : St) (v0 v6 v7 v10 : V) : OR :=
 obind (ldv s 48 v6) fun x0 =>
 obind (callwv D [x0] s v7 (.fn f_steadfastref10_lines [])) fun x1 =>
 obind (slarrv x1.2 50 8 10 none none none v7) fun x2 =>
 obind (vappend base false 38 10 x1.1 x2 x1.2) fun x3 =>
 some (.normal, [(0, v0), (6, v6), (7, v7), (10, v10), (12, x3.1)], x3.2)
@[go_sem] theorem t16_4 : rc D b c16_4 ρ s = R16_4 b s (get ρ 0) (get ρ 6) (get ρ 7) (get ρ 10) := zd (by kernel_rfl)
@[go_sem] def R16_5 (_base : Nat) (s : St) (v0 v6 v7 v10 v12 : V) : OR :=
 some (.normal, [(0, v0), (6, v6), (7, v7), (10, v10), (12, v12), (13, (.int .i64 0))], s)
@[go_sem] theorem t16_5 : rc D b c16_5 ρ s = R16_5 b s (get ρ 0) (get ρ 6) (get ρ 7) (get ρ 10) (get ρ 12) := zr (by kernel_rfl)
@[go_sem] def R16_6 (_base : Nat) (s : St) (v0 v6 v7 v10 v12 v13 : V) : OR :=
 obind (V.slen false v12) fun x0 =>
 obind (vbin .lss v13 (.int .i64 x0)) fun x1 =>
 some (.normal, [(0, v0), (6, v6), (7, v7), (10, v10), (12, v12), (13, v13), (33, x1)], s)
@[go_sem] theorem t16_6 : rc D b c16_6 ρ s = R16_6 b s (get ρ 0) (get ρ 6) (get ρ 7) (get ρ 10) (get ρ 12) (get ρ 13) := zr (by kernel_rfl)
@[go_sem] def R16_7 (_base : Nat) (s : St) (v0 v6 v7 v10 v12 v13 : V) : OR :=
 obind (sadv 10 v12 v13) fun x0 =>
 obind (ldv s 10 x0) fun x1 =>
 obind (rf D f_steadfastref04_Frames_Take [v10, x1] s) fun x2 =>
 obind (vbin .neq x2.1 (.int .i64 0)) fun x3 =>
 some (.normal, [(0, v0), (6, v6), (7, v7), (10, v10), (12, v12), (13, v13), (42, x3)], x2.2)
@[go_sem] theorem t16_7 : rc D b c16_7 ρ s = R16_7 b s (get ρ 0) (get ρ 6) (get ρ 7) (get ρ 10) (get ρ 12) (get ρ 13) := zr (by kernel_rfl)
@[go_sem] def R16_8 (_base : Nat) (s : St) : OR :=
 some (.normal, [(8, .nilp), (9, (.int .i64 21))], s)
@[go_sem] theorem t16_8 : rc D b c16_8 ρ s = R16_8 b s := zr (by kernel_rfl)
@[go_sem] def R16_9 (_base : Nat) (s : St) (v0 v6 v7 v10 v12 v13 : V) : OR :=
 obind (vbin .add v13 (.int .i64 1)) fun x0 =>
 some (.normal, [(0, v0), (6, v6), (7, v7), (10, v10), (12, v12), (13, x0)], s)
@[go_sem] theorem t16_9 : rc D b c16_9 ρ s = R16_9 b s (get ρ 0) (get ρ 6) (get ρ 7) (get ρ 10) (get ρ 12) (get ρ 13) := zr (by kernel_rfl)
@[go_sem] def R16_10 (_base : Nat) (s : St) (v0 v6 v7 v10 : V) : OR :=
 obind (ldv s 48 v6) fun x0 =>
 obind (ldv s 48 v6) fun x1 =>
 obind (ldv s 50 v7) fun x2 =>
 obind (setParts [.nilp, .nilp, (.agg 48 (List.replicate 49 (.agg 42 [(.int .i64 0), (.int .i64 0), (.int .i64 0)]))), (.agg 48 (List.replicate 49 (.agg 42 [(.int .i64 0), (.int .i64 0), (.int .i64 0)]))), (.agg 50 (List.replicate 8 (.int .i64 0))), (.agg 48 (List.replicate 49 (.agg 42 [(.int .i64 0), (.int .i64 0), (.int .i64 0)]))), (.bool false)] [(0, v0), (1, v10), (2, x0), (3, x1), (4, x2)]) fun x3 =>
 if V.ok (.agg 31 x3) && mayNew true (.agg 31 x3) then let x4 : V := .ptr (St.fresh s true) [] (V.tag (.agg 31 x3)); let s4 : St := St.new s true (.agg 31 x3)
 some (.normal, [(8, x4), (9, (.int .i64 0))], s4)
 else none
@[go_sem] theorem t16_10 : rc D b c16_10 ρ s = R16_10 b s (get ρ 0) (get ρ 6) (get ρ 7) (get ρ 10) := zr (by kernel_rfl)
@[go_sem] def R17_0 (_base : Nat) (s : St) (v0 : V) : OR :=
 some (.normal, [(0, v0)], s)
@[go_sem] theorem t17_0 : rc D b c17_0 ρ s = R17_0 b s (get ρ 0) := zr (by kernel_rfl)
@[go_sem] def R17_1 (_base : Nat) (s : St) (v0 : V) : OR :=
 obind (rf D f_caps_May [v0, (.int .i64 5), (.int .i64 2)] s) fun x0 =>
 some (.normal, [(2, x0.1)], x0.2)
@[go_sem] theorem t17_1 : rc D b c17_1 ρ s = R17_1 b s (get ρ 0) := zr (by kernel_rfl)
@[go_sem] def R18_0 (_base : Nat) (s : St) (v0 v1 : V) : OR :=
 some (.normal, [(0, v0), (1, v1)], s)
@[go_sem] theorem t18_0 : rc D b c18_0 ρ s = R18_0 b s (get ρ 0) (get ρ 1) := zr (by kernel_rfl)
@[go_sem] def R18_1 (_base : Nat) (s : St) (v0 v1 : V) : OR :=
 some (.normal, [(0, v0), (9, v1)], s)
@[go_sem] theorem t18_1 : rc D b c18_1 ρ s = R18_1 b s (get ρ 0) (get ρ 1) := zr (by kernel_rfl)
@[go_sem] def R18_2 (_base : Nat) (s : St) (v0 v9 : V) : OR :=
 obind (vbin .eql v9 (.int .i64 1)) fun x0 =>
 some (.normal, [(0, v0), (9, v9), (10, x0)], s)
@[go_sem] theorem t18_2 : rc D b c18_2 ρ s = R18_2 b s (get ρ 0) (get ρ 9) := zr (by kernel_rfl)
@[go_sem] def R18_3 (_base : Nat) (s : St) (v0 v9 : V) : OR :=
 obind (vbin .eql v9 (.int .i64 2)) fun x0 =>
 some (.normal, [(0, v0), (9, v9), (10, x0)], s)
@[go_sem] theorem t18_3 : rc D b c18_3 ρ s = R18_3 b s (get ρ 0) (get ρ 9) := zr (by kernel_rfl)
@[go_sem] def R18_4 (_base : Nat) (s : St) (v0 v9 : V) : OR :=
 obind (vbin .eql v9 (.int .i64 4)) fun x0 =>
 some (.normal, [(0, v0), (10, x0)], s)
@[go_sem] theorem t18_4 : rc D b c18_4 ρ s = R18_4 b s (get ρ 0) (get ρ 9) := zr (by kernel_rfl)
@[go_sem] def R18_5 (_base : Nat) (s : St) : OR :=
 some (.normal, [(4, (.int .i64 0)), (5, (.int .i64 0)), (6, (.int .i64 1))], s)
@[go_sem] theorem t18_5 : rc D b c18_5 ρ s = R18_5 b s := zr (by kernel_rfl)
@[go_sem] def R18_6 (_base : Nat) (s : St) (v0 : V) : OR :=
 obind (nilv v0) fun x0 =>
 obind (fadv 43 2 48 x0) fun x1 =>
 obind (ldv s 48 x1) fun x2 =>
 some (.normal, [(17, x2), (18, (.int .i64 0))], s)
@[go_sem] theorem t18_6 : rc D b c18_6 ρ s = R18_6 b s (get ρ 0) := zr (by kernel_rfl)
@[go_sem] def R18_7 (_base : Nat) (s : St) (v17 v18 : V) : OR :=
 obind (vbin .lss v18 (.int .i64 49)) fun x0 =>
 some (.normal, [(17, v17), (18, v18), (19, x0)], s)
@[go_sem] theorem t18_7 : rc D b c18_7 ρ s = R18_7 b s (get ρ 17) (get ρ 18) := zr (by kernel_rfl)
@[go_sem] def R18_8 (base : Nat) (s : St) (v17 v18 : V) : OR :=
 obind (idxv 48 49 v17 v18) fun x0 =>
 let x1 : V := .ptr (St.fresh s false) [] 42; let s1 : St := St.new s false (.agg 42 [(.int .i64 0), (.int .i64 0), (.int .i64 0)])
 obind (stv base s1 42 x0 x1) fun s2 =>
 some (.normal, [(7, v18), (8, x1), (17, v17), (18, v18)], s2)
@[go_sem] theorem t18_8 : rc D b c18_8 ρ s = R18_8 b s (get ρ 17) (get ρ 18) := zr (by kernel_rfl)
@[go_sem] def R18_9 (_base : Nat) (s : St) (v7 v8 v17 v18 : V) : OR :=
 obind (ldv s 42 v8) fun x0 =>
 obind (rf D f_entry_Open [x0] s) fun x1 =>
 some (.normal, [(7, v7), (8, v8), (17, v17), (18, v18), (23, x1.1)], x1.2)
@[go_sem] theorem t18_9 : rc D b c18_9 ρ s = R18_9 b s (get ρ 7) (get ρ 8) (get ρ 17) (get ρ 18) := zr (by kernel_rfl)
@[go_sem] def R18_10 (_base : Nat) (s : St) (v7 v8 : V) : OR :=
 obind (fadv 42 1 10 v8) fun x0 =>
 obind (ldv s 10 x0) fun x1 =>
 some (.normal, [(4, v7), (5, x1), (6, (.int .i64 0))], s)
@[go_sem] theorem t18_10 : rc D b c18_10 ρ s = R18_10 b s (get ρ 7) (get ρ 8) := zd (by kernel_rfl)
@[go_sem] def R18_11 (_base : Nat) (s : St) (v17 v18 : V) : OR :=
 obind (vbin .add v18 (.int .i64 1)) fun x0 =>
 some (.normal, [(17, v17), (18, x0)], s)
@[go_sem] theorem t18_11 : rc D b c18_11 ρ s = R18_11 b s (get ρ 17) (get ρ 18) := zr (by kernel_rfl)
@[go_sem] def R18_12 (_base : Nat) (s : St) : OR :=
 some (.normal, [(4, (.int .i64 0)), (5, (.int .i64 0)), (6, (.int .i64 34))], s)
@[go_sem] theorem t18_12 : rc D b c18_12 ρ s = R18_12 b s := zr (by kernel_rfl)
@[go_sem] def R19_0 (_base : Nat) (s : St) (v0 : V) : OR :=
 if V.ok v0 && mayNew false v0 then let x0 : V := .ptr (St.fresh s false) [] (V.tag v0); let s0 : St := St.new s false v0
 some (.normal, [(1, x0)], s0)
 else none
@[go_sem] theorem t19_0 : rc D b c19_0 ρ s = R19_0 b s (get ρ 0) := zr (by kernel_rfl)
@[go_sem] def R19_1 (_base : Nat) (s : St) (v1 : V) : OR :=
 obind (ldv s 40 v1) fun x0 =>
 obind (rf D f_caps_may [x0] s) fun x1 =>
 obind (vun .not x1.1) fun x2 =>
 some (.normal, [(1, v1), (6, x2)], x1.2)
@[go_sem] theorem t19_1 : rc D b c19_1 ρ s = R19_1 b s (get ρ 1) := zr (by kernel_rfl)
@[go_sem] def R19_2 (_base : Nat) (s : St) : OR :=
 some (.normal, [(2, (.int .u64 0)), (3, (.int .i64 1))], s)
@[go_sem] theorem t19_2 : rc D b c19_2 ρ s = R19_2 b s := zr (by kernel_rfl)
@[go_sem] def R19_3 (_base : Nat) (s : St) (v1 : V) : OR :=
 obind (fadv 40 0 10 v1) fun x0 =>
 obind (ldv s 10 x0) fun x1 =>
 obind (convv .u64 x1) fun x2 =>
 obind (fadv 40 1 10 v1) fun x3 =>
 obind (ldv s 10 x3) fun x4 =>
 obind (convv .u64 x4) fun x5 =>
 obind (vbin .shl x5 (.int .u64 4)) fun x6 =>
 obind (vbin .or x2 x6) fun x7 =>
 obind (fadv 40 2 10 v1) fun x8 =>
 obind (ldv s 10 x8) fun x9 =>
 obind (convv .u64 x9) fun x10 =>
 obind (vbin .shl x10 (.int .u64 8)) fun x11 =>
 obind (vbin .or x7 x11) fun x12 =>
 obind (fadv 40 3 10 v1) fun x13 =>
 obind (ldv s 10 x13) fun x14 =>
 obind (convv .u64 x14) fun x15 =>
 obind (vbin .shl x15 (.int .u64 24)) fun x16 =>
 obind (vbin .or x12 x16) fun x17 =>
 obind (fadv 40 4 10 v1) fun x18 =>
 obind (ldv s 10 x18) fun x19 =>
 obind (convv .u64 x19) fun x20 =>
 obind (vbin .shl x20 (.int .u64 48)) fun x21 =>
 obind (vbin .or x17 x21) fun x22 =>
 some (.normal, [(2, x22), (3, (.int .i64 0))], s)
@[go_sem] theorem t19_3 : rc D b c19_3 ρ s = R19_3 b s (get ρ 1) := zr (by kernel_rfl)
@[go_sem] def R20_0 (_base : Nat) (s : St) (v0 v1 v2 : V) : OR :=
 some (.normal, [(0, v0), (1, v1), (2, v2)], s)
@[go_sem] theorem t20_0 : rc D b c20_0 ρ s = R20_0 b s (get ρ 0) (get ρ 1) (get ρ 2) := zr (by kernel_rfl)
@[go_sem] def R20_1 (base : Nat) (s : St) (v0 v1 v2 : V) : OR :=
 obind (rf D f_steadfastref07_Of [v0] s) fun x0 =>
 obind (extv 0 x0.1) fun x1 =>
 obind (extv 1 x0.1) fun x2 =>
 let x3 : V := .ptr (St.fresh x0.2 false) [] 40; let s3 : St := St.new x0.2 false (.agg 40 [(.int .i64 0), (.int .i64 0), (.int .i64 0), (.int .i64 0), (.int .i64 0)])
 obind (stv base s3 40 x1 x3) fun s4 =>
 some (.normal, [(1, v1), (2, v2), (7, x3), (8, x2)], s4)
@[go_sem] theorem t20_1 : rc D b c20_1 ρ s = R20_1 b s (get ρ 0) (get ρ 1) (get ρ 2) := zr (by kernel_rfl)
@[go_sem] def R20_2 (_base : Nat) (s : St) (v1 v2 v7 v8 : V) : OR :=
 obind (vun .not v8) fun x0 =>
 oguard x0 false (
   obind (fadv 40 0 10 v7) fun x1 =>
   obind (ldv s 10 x1) fun x2 =>
   obind (vbin .neq x2 v1) fun x3 =>
   some (.normal, [(2, v2), (7, v7), (21, x3)], s)) (
   some (.normal, [(2, v2), (7, v7), (21, (.bool true))], s)) (
   none)
@[go_sem] theorem t20_2 : rc D b c20_2 ρ s = R20_2 b s (get ρ 1) (get ρ 2) (get ρ 7) (get ρ 8) := zr (by kernel_rfl)
@[go_sem] def R20_3 (_base : Nat) (s : St) : OR :=
 some (.normal, [(6, (.int .i64 31))], s)
@[go_sem] theorem t20_3 : rc D b c20_3 ρ s = R20_3 b s := zr (by kernel_rfl)
@[go_sem] def R20_4 (_base : Nat) (s : St) (v2 v7 : V) : OR :=
 obind (fadv 40 1 10 v7) fun x0 =>
 obind (ldv s 10 x0) fun x1 =>
 obind (vbin .and x1 v2) fun x2 =>
 obind (vbin .neq x2 v2) fun x3 =>
 some (.normal, [(27, x3)], s)
@[go_sem] theorem t20_4 : rc D b c20_4 ρ s = R20_4 b s (get ρ 2) (get ρ 7) := zr (by kernel_rfl)
@[go_sem] def R20_5 (_base : Nat) (s : St) : OR :=
 some (.normal, [(6, (.int .i64 32))], s)
@[go_sem] theorem t20_5 : rc D b c20_5 ρ s = R20_5 b s := zr (by kernel_rfl)
@[go_sem] def R20_6 (_base : Nat) (s : St) : OR :=
 some (.normal, [(6, (.int .i64 0))], s)
@[go_sem] theorem t20_6 : rc D b c20_6 ρ s = R20_6 b s := zr (by kernel_rfl)
@[go_sem] def R21_0 (_base : Nat) (s : St) (v0 v1 : V) : OR :=
 some (.normal, [(0, v0), (1, v1)], s)
@[go_sem] theorem t21_0 : rc D b c21_0 ρ s = R21_0 b s (get ρ 0) (get ρ 1) := zr (by kernel_rfl)
@[go_sem] def R21_1 (_base : Nat) (s : St) (v0 v1 : V) : OR :=
 obind (vbin .neq v1 (.int .i64 1)) fun x0 =>
 oguard x0 true (
   obind (vbin .neq v1 (.int .i64 2)) fun x1 =>
   oguard x1 true (
     obind (vbin .neq v1 (.int .i64 4)) fun x2 =>
     some (.normal, [(0, v0), (17, x2)], s)) (
     some (.normal, [(0, v0), (17, (.bool false))], s)) (
     none)) (
   some (.normal, [(0, v0), (17, (.bool false))], s)) (
   none)
@[go_sem] theorem t21_1 : rc D b c21_1 ρ s = R21_1 b s (get ρ 0) (get ρ 1) := zr (by kernel_rfl)
@[go_sem] def R21_2 (_base : Nat) (s : St) : OR :=
 some (.normal, [(4, (.int .i64 0)), (5, (.int .i64 0)), (6, (.int .i64 1))], s)
@[go_sem] theorem t21_2 : rc D b c21_2 ρ s = R21_2 b s := zr (by kernel_rfl)
@[go_sem] def R21_3 (_base : Nat) (s : St) (v0 : V) : OR :=
 some (.normal, [(0, v0), (7, (.int .i64 0))], s)
@[go_sem] theorem t21_3 : rc D b c21_3 ρ s = R21_3 b s (get ρ 0) := zr (by kernel_rfl)
@[go_sem] def R21_4 (_base : Nat) (s : St) (v0 v7 : V) : OR :=
 obind (vbin .lss v7 (.int .i64 49)) fun x0 =>
 some (.normal, [(0, v0), (7, v7), (19, x0)], s)
@[go_sem] theorem t21_4 : rc D b c21_4 ρ s = R21_4 b s (get ρ 0) (get ρ 7) := zr (by kernel_rfl)
@[go_sem] def R21_5 (_base : Nat) (s : St) (v0 v7 : V) : OR :=
 obind (nilv v0) fun x0 =>
 obind (fadv 31 2 48 x0) fun x1 =>
 obind (iadv 48 49 42 x1 v7) fun x2 =>
 obind (ldv s 42 x2) fun x3 =>
 obind (rf D f_steadfastref08_Open [x3] s) fun x4 =>
 some (.normal, [(0, v0), (7, v7), (28, x4.1)], x4.2)
@[go_sem] theorem t21_5 : rc D b c21_5 ρ s = R21_5 b s (get ρ 0) (get ρ 7) := zr (by kernel_rfl)
@[go_sem] def R21_6 (_base : Nat) (s : St) (v0 v7 : V) : OR :=
 obind (nilv v0) fun x0 =>
 obind (fadv 31 2 48 x0) fun x1 =>
 obind (iadv 48 49 42 x1 v7) fun x2 =>
 obind (fadv 42 1 10 x2) fun x3 =>
 obind (ldv s 10 x3) fun x4 =>
 some (.normal, [(4, v7), (5, x4), (6, (.int .i64 0))], s)
@[go_sem] theorem t21_6 : rc D b c21_6 ρ s = R21_6 b s (get ρ 0) (get ρ 7) := zd (by kernel_rfl)
@[go_sem] def R21_7 (_base : Nat) (s : St) (v0 v7 : V) : OR :=
 obind (vbin .add v7 (.int .i64 1)) fun x0 =>
 some (.normal, [(0, v0), (7, x0)], s)
@[go_sem] theorem t21_7 : rc D b c21_7 ρ s = R21_7 b s (get ρ 0) (get ρ 7) := zr (by kernel_rfl)
@[go_sem] def R21_8 (_base : Nat) (s : St) : OR :=
 some (.normal, [(4, (.int .i64 0)), (5, (.int .i64 0)), (6, (.int .i64 34))], s)
@[go_sem] theorem t21_8 : rc D b c21_8 ρ s = R21_8 b s := zr (by kernel_rfl)
@[go_sem] def R22_0 (_base : Nat) (s : St) (v0 : V) : OR :=
 let x0 : V := .ptr (St.fresh s false) [] 40; let s0 : St := St.new s false (.agg 40 [(.int .i64 0), (.int .i64 0), (.int .i64 0), (.int .i64 0), (.int .i64 0)])
 some (.normal, [(0, v0), (2, x0)], s0)
@[go_sem] theorem t22_0 : rc D b c22_0 ρ s = R22_0 b s (get ρ 0) := zr (by kernel_rfl)
@[go_sem] def R22_1 (base : Nat) (s : St) (v0 v2 : V) : OR :=
 obind (vbin .and v0 (.int .u64 15)) fun x0 =>
 obind (convv .i64 x0) fun x1 =>
 obind (vbin .shr v0 (.int .u64 4)) fun x2 =>
 obind (vbin .and x2 (.int .u64 15)) fun x3 =>
 obind (convv .i64 x3) fun x4 =>
 obind (vbin .shr v0 (.int .u64 8)) fun x5 =>
 obind (vbin .and x5 (.int .u64 65535)) fun x6 =>
 obind (convv .i64 x6) fun x7 =>
 obind (vbin .shr v0 (.int .u64 24)) fun x8 =>
 obind (vbin .and x8 (.int .u64 16777215)) fun x9 =>
 obind (convv .i64 x9) fun x10 =>
 obind (vbin .shr v0 (.int .u64 48)) fun x11 =>
 obind (convv .i64 x11) fun x12 =>
 obind (setParts [(.int .i64 0), (.int .i64 0), (.int .i64 0), (.int .i64 0), (.int .i64 0)] [(0, x1), (1, x4), (2, x7), (3, x10), (4, x12)]) fun x13 =>
 let x14 : V := .ptr (St.fresh s false) [] 40; let s14 : St := St.new s false (.agg 40 [(.int .i64 0), (.int .i64 0), (.int .i64 0), (.int .i64 0), (.int .i64 0)])
 obind (stv base s14 40 (.agg 40 x13) x14) fun s15 =>
 some (.normal, [(2, v2), (4, x14)], s15)
@[go_sem] theorem t22_1 : rc D b c22_1 ρ s = R22_1 b s (get ρ 0) (get ρ 2) := zr (by kernel_rfl)
@[go_sem] def R22_2 (_base : Nat) (s : St) (v2 v4 : V) : OR :=
 obind (ldv s 40 v4) fun x0 =>
 obind (rf D f_caps_may [x0] s) fun x1 =>
 obind (vun .not x1.1) fun x2 =>
 some (.normal, [(2, v2), (4, v4), (26, x2)], x1.2)
@[go_sem] theorem t22_2 : rc D b c22_2 ρ s = R22_2 b s (get ρ 2) (get ρ 4) := zr (by kernel_rfl)
@[go_sem] def R22_3 (base : Nat) (s : St) (v2 : V) : OR :=
 obind (setParts [(.int .i64 0), (.int .i64 0), (.int .i64 0), (.int .i64 0), (.int .i64 0)] []) fun x0 =>
 obind (stv base s 40 (.agg 40 x0) v2) fun s1 =>
 some (.normal, [(2, v2), (3, (.bool false))], s1)
@[go_sem] theorem t22_3 : rc D b c22_3 ρ s = R22_3 b s (get ρ 2) := zr (by kernel_rfl)
@[go_sem] def R22_4 (base : Nat) (s : St) (v2 v4 : V) : OR :=
 obind (ldv s 40 v4) fun x0 =>
 obind (stv base s 40 x0 v2) fun s1 =>
 some (.normal, [(2, v2), (3, (.bool true))], s1)
@[go_sem] theorem t22_4 : rc D b c22_4 ρ s = R22_4 b s (get ρ 2) (get ρ 4) := zr (by kernel_rfl)
@[go_sem] def R23_0 (_base : Nat) (s : St) (v0 v1 v2 : V) : OR :=
 if V.ok v0 && mayNew false v0 then let x0 : V := .ptr (St.fresh s false) [] (V.tag v0); let s0 : St := St.new s false v0
 some (.normal, [(1, v1), (2, v2), (3, x0)], s0)
 else none
@[go_sem] theorem t23_0 : rc D b c23_0 ρ s = R23_0 b s (get ρ 0) (get ρ 1) (get ρ 2) := zr (by kernel_rfl)
@[go_sem] def R23_1 (base : Nat) (s : St) (v1 v2 v3 : V) : OR :=
 obind (rf D f_caps_Of [v2] s) fun x0 =>
 obind (extv 0 x0.1) fun x1 =>
 obind (extv 1 x0.1) fun x2 =>
 let x3 : V := .ptr (St.fresh x0.2 false) [] 40; let s3 : St := St.new x0.2 false (.agg 40 [(.int .i64 0), (.int .i64 0), (.int .i64 0), (.int .i64 0), (.int .i64 0)])
 obind (stv base s3 40 x1 x3) fun s4 =>
 some (.normal, [(1, v1), (3, v3), (7, x3), (8, x2)], s4)
@[go_sem] theorem t23_1 : rc D b c23_1 ρ s = R23_1 b s (get ρ 1) (get ρ 2) (get ρ 3) := zr (by kernel_rfl)
@[go_sem] def R23_2 (_base : Nat) (s : St) (v1 v3 v7 v8 : V) : OR :=
 obind (vun .not v8) fun x0 =>
 some (.normal, [(1, v1), (3, v3), (7, v7), (14, x0)], s)
@[go_sem] theorem t23_2 : rc D b c23_2 ρ s = R23_2 b s (get ρ 1) (get ρ 3) (get ρ 7) (get ρ 8) := zr (by kernel_rfl)
@[go_sem] def R23_3 (_base : Nat) (s : St) (v1 v3 v7 : V) : OR :=
 obind (fadv 40 0 10 v7) fun x0 =>
 obind (ldv s 10 x0) fun x1 =>
 obind (vbin .gtr x1 (.int .i64 4)) fun x2 =>
 some (.normal, [(1, v1), (3, v3), (7, v7), (14, x2)], s)
@[go_sem] theorem t23_3 : rc D b c23_3 ρ s = R23_3 b s (get ρ 1) (get ρ 3) (get ρ 7) := zr (by kernel_rfl)
@[go_sem] def R23_4 (_base : Nat) (s : St) : OR :=
 some (.normal, [(6, (.int .i64 31))], s)
@[go_sem] theorem t23_4 : rc D b c23_4 ρ s = R23_4 b s := zr (by kernel_rfl)
@[go_sem] def R23_5 (_base : Nat) (s : St) (v1 v3 v7 : V) : OR :=
 obind (fadv 40 2 10 v7) fun x0 =>
 obind (ldv s 10 x0) fun x1 =>
 obind (vbin .neq x1 v1) fun x2 =>
 some (.normal, [(3, v3), (7, v7), (20, x2)], s)
@[go_sem] theorem t23_5 : rc D b c23_5 ρ s = R23_5 b s (get ρ 1) (get ρ 3) (get ρ 7) := zr (by kernel_rfl)
@[go_sem] def R23_6 (_base : Nat) (s : St) : OR :=
 some (.normal, [(6, (.int .i64 30))], s)
@[go_sem] theorem t23_6 : rc D b c23_6 ρ s = R23_6 b s := zr (by kernel_rfl)
@[go_sem] def R23_7 (_base : Nat) (s : St) (v3 v7 : V) : OR :=
 obind (fadv 40 3 10 v7) fun x0 =>
 obind (ldv s 10 x0) fun x1 =>
 obind (fadv 42 1 10 v3) fun x2 =>
 obind (ldv s 10 x2) fun x3 =>
 obind (vbin .neq x1 x3) fun x4 =>
 some (.normal, [(3, v3), (7, v7), (25, x4)], s)
@[go_sem] theorem t23_7 : rc D b c23_7 ρ s = R23_7 b s (get ρ 3) (get ρ 7) := zr (by kernel_rfl)
@[go_sem] def R23_8 (_base : Nat) (s : St) : OR :=
 some (.normal, [(6, (.int .i64 33))], s)
@[go_sem] theorem t23_8 : rc D b c23_8 ρ s = R23_8 b s := zr (by kernel_rfl)
@[go_sem] def R23_9 (_base : Nat) (s : St) (v3 v7 : V) : OR :=
 obind (fadv 42 0 10 v3) fun x0 =>
 obind (ldv s 10 x0) fun x1 =>
 obind (vbin .eql x1 (.int .i64 0)) fun x2 =>
 some (.normal, [(3, v3), (7, v7), (31, x2)], s)
@[go_sem] theorem t23_9 : rc D b c23_9 ρ s = R23_9 b s (get ρ 3) (get ρ 7) := zr (by kernel_rfl)
@[go_sem] def R23_10 (_base : Nat) (s : St) : OR :=
 some (.normal, [(6, (.int .i64 30))], s)
@[go_sem] theorem t23_10 : rc D b c23_10 ρ s = R23_10 b s := zr (by kernel_rfl)
@[go_sem] def R23_11 (_base : Nat) (s : St) (v3 v7 : V) : OR :=
 obind (fadv 40 0 10 v7) fun x0 =>
 obind (ldv s 10 x0) fun x1 =>
 obind (fadv 42 0 10 v3) fun x2 =>
 obind (ldv s 10 x2) fun x3 =>
 obind (vbin .neq x1 x3) fun x4 =>
 some (.normal, [(35, x4)], s)
@[go_sem] theorem t23_11 : rc D b c23_11 ρ s = R23_11 b s (get ρ 3) (get ρ 7) := zr (by kernel_rfl)
@[go_sem] def R23_12 (_base : Nat) (s : St) : OR :=
 some (.normal, [(6, (.int .i64 31))], s)
@[go_sem] theorem t23_12 : rc D b c23_12 ρ s = R23_12 b s := zr (by kernel_rfl)
@[go_sem] def R23_13 (_base : Nat) (s : St) : OR :=
 some (.normal, [(6, (.int .i64 0))], s)
@[go_sem] theorem t23_13 : rc D b c23_13 ρ s = R23_13 b s := zr (by kernel_rfl)
@[go_sem] def R24_0 (_base : Nat) (s : St) (v0 v1 : V) : OR :=
 if V.ok v1 && mayNew false v1 then let x0 : V := .ptr (St.fresh s false) [] (V.tag v1); let s0 : St := St.new s false v1
 some (.normal, [(0, v0), (3, x0)], s0)
 else none
@[go_sem] theorem t24_0 : rc D b c24_0 ρ s = R24_0 b s (get ρ 0) (get ρ 1) := zr (by kernel_rfl)
@[go_sem] def R24_1 (_base : Nat) (s : St) (v0 v3 : V) : OR :=
 obind (nilv v0) fun x0 =>
 obind (fadv 43 1 1 x0) fun x1 =>
 obind (ldv s 1 x1) fun x2 =>
 obind (rf D f_frames_Frames_Alloc [x2] s) fun x3 =>
 obind (extv 0 x3.1) fun x4 =>
 obind (extv 1 x3.1) fun x5 =>
 some (.normal, [(0, v0), (3, v3), (6, x4), (7, x5)], x3.2)
@[go_sem] theorem t24_1 : rc D b c24_1 ρ s = R24_1 b s (get ρ 0) (get ρ 3) := zr (by kernel_rfl)
@[go_sem] def R24_2 (_base : Nat) (s : St) (v0 v3 v6 v7 : V) : OR :=
 obind (vbin .neq v7 (.int .i64 0)) fun x0 =>
 some (.normal, [(0, v0), (3, v3), (6, v6), (7, v7), (20, x0)], s)
@[go_sem] theorem t24_2 : rc D b c24_2 ρ s = R24_2 b s (get ρ 0) (get ρ 3) (get ρ 6) (get ρ 7) := zr (by kernel_rfl)
@[go_sem] def R24_3 (_base : Nat) (s : St) (v7 : V) : OR :=
 some (.normal, [(4, (.int .i64 0)), (5, v7)], s)
@[go_sem] theorem t24_3 : rc D b c24_3 ρ s = R24_3 b s (get ρ 7) := zr (by kernel_rfl)
@[go_sem] def R24_4 (_base : Nat) (s : St) (v0 v3 v6 : V) : OR :=
 obind (ldv s 24 v3) fun x0 =>
 some (.normal, [(0, v0), (6, v6), (22, x0), (23, (.int .i64 0))], s)
@[go_sem] theorem t24_4 : rc D b c24_4 ρ s = R24_4 b s (get ρ 0) (get ρ 3) (get ρ 6) := zr (by kernel_rfl)
@[go_sem] def R24_5 (_base : Nat) (s : St) (v0 v6 v22 v23 : V) : OR :=
 obind (vbin .lss v23 (.int .i64 8)) fun x0 =>
 some (.normal, [(0, v0), (6, v6), (22, v22), (23, v23), (24, x0)], s)
@[go_sem] theorem t24_5 : rc D b c24_5 ρ s = R24_5 b s (get ρ 0) (get ρ 6) (get ρ 22) (get ρ 23) := zr (by kernel_rfl)
@[go_sem] def R24_6 (_base : Nat) (s : St) (v0 v6 v22 v23 : V) : OR :=
 obind (idxv 24 8 v22 v23) fun x0 =>
 some (.normal, [(0, v0), (6, v6), (8, v23), (9, x0), (22, v22), (23, v23)], s)
@[go_sem] theorem t24_6 : rc D b c24_6 ρ s = R24_6 b s (get ρ 0) (get ρ 6) (get ρ 22) (get ρ 23) := zr (by kernel_rfl)
@[go_sem] def R24_7 (_base : Nat) (s : St) (v0 v6 v8 v9 v22 v23 : V) : OR :=
 obind (nilv v0) fun x0 =>
 obind (fadv 43 0 1 x0) fun x1 =>
 obind (ldv s 1 x1) fun x2 =>
 obind (rf D f_nvm_Memory_Store [x2, v6, v8, v9] s) fun x3 =>
 some (.normal, [(0, v0), (6, v6), (10, x3.1), (22, v22), (23, v23)], x3.2)
@[go_sem] theorem t24_7 : rc D b c24_7 ρ s = R24_7 b s (get ρ 0) (get ρ 6) (get ρ 8) (get ρ 9) (get ρ 22) (get ρ 23) := zr (by kernel_rfl)
@[go_sem] def R24_8 (_base : Nat) (s : St) (v0 v6 v10 v22 v23 : V) : OR :=
 obind (vbin .neq v10 (.int .i64 0)) fun x0 =>
 some (.normal, [(0, v0), (6, v6), (10, v10), (22, v22), (23, v23), (36, x0)], s)
@[go_sem] theorem t24_8 : rc D b c24_8 ρ s = R24_8 b s (get ρ 0) (get ρ 6) (get ρ 10) (get ρ 22) (get ρ 23) := zr (by kernel_rfl)
@[go_sem] def R24_9 (_base : Nat) (s : St) (v10 : V) : OR :=
 some (.normal, [(4, (.int .i64 0)), (5, v10)], s)
@[go_sem] theorem t24_9 : rc D b c24_9 ρ s = R24_9 b s (get ρ 10) := zr (by kernel_rfl)
@[go_sem] def R24_10 (_base : Nat) (s : St) (v0 v6 v22 v23 : V) : OR :=
 obind (vbin .add v23 (.int .i64 1)) fun x0 =>
 some (.normal, [(0, v0), (6, v6), (22, v22), (23, x0)], s)
@[go_sem] theorem t24_10 : rc D b c24_10 ρ s = R24_10 b s (get ρ 0) (get ρ 6) (get ρ 22) (get ρ 23) := zr (by kernel_rfl)
@[go_sem] def R24_11 (_base : Nat) (s : St) (v6 : V) : OR :=
 some (.normal, [(4, v6), (5, (.int .i64 0))], s)
@[go_sem] theorem t24_11 : rc D b c24_11 ρ s = R24_11 b s (get ρ 6) := zr (by kernel_rfl)
@[go_sem] def R25_0 (_base : Nat) (s : St) (v0 v1 v2 v3 : V) : OR :=
 some (.normal, [(0, v0), (1, v1), (2, v2), (3, v3)], s)
@[go_sem] theorem t25_0 : rc D b c25_0 ρ s = R25_0 b s (get ρ 0) (get ρ 1) (get ρ 2) (get ρ 3) := zr (by kernel_rfl)
@[go_sem] def R25_1 (_base : Nat) (s : St) (v0 v1 v2 v3 : V) : OR :=
 obind (rf D f_steadfastref01_is [v1, v2] s) fun x0 =>
 obind (vun .not x0.1) fun x1 =>
 some (.normal, [(0, v0), (1, v1), (2, v2), (3, v3), (15, x1)], x0.2)
@[go_sem] theorem t25_1 : rc D b c25_1 ρ s = R25_1 b s (get ρ 0) (get ρ 1) (get ρ 2) (get ρ 3) := zr (by kernel_rfl)
@[go_sem] def R25_2 (_base : Nat) (s : St) : OR :=
 some (.normal, [(8, (.int .u64 0)), (9, (.int .i64 1))], s)
@[go_sem] theorem t25_2 : rc D b c25_2 ρ s = R25_2 b s := zr (by kernel_rfl)
@[go_sem] def R25_3 (_base : Nat) (s : St) (v0 v1 v2 v3 : V) : OR :=
 some (.normal, [(0, v0), (1, v1), (2, v2), (3, v3), (10, v2)], s)
@[go_sem] theorem t25_3 : rc D b c25_3 ρ s = R25_3 b s (get ρ 0) (get ρ 1) (get ρ 2) (get ρ 3) := zr (by kernel_rfl)
@[go_sem] def R25_4 (_base : Nat) (s : St) (v0 v1 v2 v3 v10 : V) : OR :=
 obind (vbin .lss v10 (.int .i64 64)) fun x0 =>
 some (.normal, [(0, v0), (1, v1), (2, v2), (3, v3), (10, v10), (18, x0)], s)
@[go_sem] theorem t25_4 : rc D b c25_4 ρ s = R25_4 b s (get ρ 0) (get ρ 1) (get ρ 2) (get ρ 3) (get ρ 10) := zr (by kernel_rfl)
@[go_sem] def R25_5 (_base : Nat) (s : St) (v0 v1 v2 v3 v10 : V) : OR :=
 obind (rf D f_steadfastref01_bit [v3, v10] s) fun x0 =>
 obind (vbin .eql x0.1 (.int .u64 1)) fun x1 =>
 some (.normal, [(0, v0), (1, v1), (2, v2), (3, v3), (10, v10), (24, x1)], x0.2)
@[go_sem] theorem t25_5 : rc D b c25_5 ρ s = R25_5 b s (get ρ 0) (get ρ 1) (get ρ 2) (get ρ 3) (get ρ 10) := zr (by kernel_rfl)
@[go_sem] def R25_6 (_base : Nat) (s : St) : OR :=
 some (.normal, [(8, (.int .u64 0)), (9, (.int .i64 2))], s)
@[go_sem] theorem t25_6 : rc D b c25_6 ρ s = R25_6 b s := zr (by kernel_rfl)
@[go_sem] def R25_7 (_base : Nat) (s : St) (v0 v1 v2 v3 v10 : V) : OR :=
 obind (vbin .add v10 (.int .i64 1)) fun x0 =>
 some (.normal, [(0, v0), (1, v1), (2, v2), (3, v3), (10, x0)], s)
@[go_sem] theorem t25_7 : rc D b c25_7 ρ s = R25_7 b s (get ρ 0) (get ρ 1) (get ρ 2) (get ρ 3) (get ρ 10) := zr (by kernel_rfl)
@[go_sem] def R25_8 (_base : Nat) (s : St) (v0 v1 v2 v3 : V) : OR :=
 some (.normal, [(0, v0), (1, v1), (2, v2), (3, v3), (11, (.int .i64 0))], s)
@[go_sem] theorem t25_8 : rc D b c25_8 ρ s = R25_8 b s (get ρ 0) (get ρ 1) (get ρ 2) (get ρ 3) := zr (by kernel_rfl)
@[go_sem] def R25_9 (_base : Nat) (s : St) (v0 v1 v2 v3 v11 : V) : OR :=
 obind (vbin .lss v11 v2) fun x0 =>
 some (.normal, [(0, v0), (1, v1), (2, v2), (3, v3), (11, v11), (27, x0)], s)
@[go_sem] theorem t25_9 : rc D b c25_9 ρ s = R25_9 b s (get ρ 0) (get ρ 1) (get ρ 2) (get ρ 3) (get ρ 11) := zr (by kernel_rfl)
@[go_sem] def R25_10 (_base : Nat) (s : St) (v0 v1 v2 v3 v11 : V) : OR :=
 obind (rf D f_steadfastref01_bit [v3, v11] s) fun x0 =>
 obind (vbin .add v1 v11) fun x1 =>
 obind (rf D f_steadfastref01_bit [v0, x1] x0.2) fun x2 =>
 obind (vbin .neq x0.1 x2.1) fun x3 =>
 some (.normal, [(0, v0), (1, v1), (2, v2), (3, v3), (11, v11), (38, x3)], x2.2)
@[go_sem] theorem t25_10 : rc D b c25_10 ρ s = R25_10 b s (get ρ 0) (get ρ 1) (get ρ 2) (get ρ 3) (get ρ 11) := zr (by kernel_rfl)
@[go_sem] def R25_11 (_base : Nat) (s : St) (v0 v1 v2 v3 v11 : V) : OR :=
 obind (vbin .add v1 v11) fun x0 =>
 obind (vbin .shl (.int .u64 1) x0) fun x1 =>
 obind (vbin .xor v0 x1) fun x2 =>
 some (.normal, [(0, x2), (1, v1), (2, v2), (3, v3), (11, v11)], s)
@[go_sem] theorem t25_11 : rc D b c25_11 ρ s = R25_11 b s (get ρ 0) (get ρ 1) (get ρ 2) (get ρ 3) (get ρ 11) := zr (by kernel_rfl)
@[go_sem] def R25_12 (_base : Nat) (s : St) (v0 v1 v2 v3 v11 : V) : OR :=
 obind (vbin .add v11 (.int .i64 1)) fun x0 =>
 some (.normal, [(0, v0), (1, v1), (2, v2), (3, v3), (11, x0)], s)
@[go_sem] theorem t25_12 : rc D b c25_12 ρ s = R25_12 b s (get ρ 0) (get ρ 1) (get ρ 2) (get ρ 3) (get ρ 11) := zr (by kernel_rfl)
@[go_sem] def R25_13 (_base : Nat) (s : St) (v0 : V) : OR :=
 some (.normal, [(8, v0), (9, (.int .i64 0))], s)
@[go_sem] theorem t25_13 : rc D b c25_13 ρ s = R25_13 b s (get ρ 0) := zr (by kernel_rfl)
@[go_sem] def R26_0 (_base : Nat) (s : St) (v0 : V) : OR :=
 some (.normal, [(0, v0)], s)
@[go_sem] theorem t26_0 : rc D b c26_0 ρ s = R26_0 b s (get ρ 0) := zr (by kernel_rfl)
@[go_sem] def R26_1 (_base : Nat) (s : St) (v0 : V) : OR :=
 obind (vbin .lss v0 (.int .i64 64)) fun x0 =>
 oguard x0 false (
   obind (vbin .gtr v0 (.int .i64 1024)) fun x1 =>
   some (.normal, [(0, v0), (9, x1)], s)) (
   some (.normal, [(0, v0), (9, (.bool true))], s)) (
   none)
@[go_sem] theorem t26_1 : rc D b c26_1 ρ s = R26_1 b s (get ρ 0) := zr (by kernel_rfl)
@[go_sem] def R26_2 (_base : Nat) (s : St) : OR :=
 some (.normal, [(2, .nilp), (3, (.int .i64 1))], s)
@[go_sem] theorem t26_2 : rc D b c26_2 ρ s = R26_2 b s := zr (by kernel_rfl)
@[go_sem] def R26_3 (_base : Nat) (s : St) (v0 : V) : OR :=
 obind (mkslv true 57 55 (.agg 55 [(.agg 24 (List.replicate 8 (.int .u64 0))), (.agg 24 (List.replicate 8 (.int .u64 0))), .nils, (.agg 50 (List.replicate 8 (.int .i64 0)))]) s v0 v0) fun x0 =>
 obind (setParts [.nils, (.bool false), (.bool false), (.int .i64 0), (.int .i64 0)] [(0, x0.1)]) fun x1 =>
 if V.ok (.agg 59 x1) && mayNew true (.agg 59 x1) then let x2 : V := .ptr (St.fresh x0.2 true) [] (V.tag (.agg 59 x1)); let s2 : St := St.new x0.2 true (.agg 59 x1)
 some (.normal, [(2, x2), (3, (.int .i64 0))], s2)
 else none
@[go_sem] theorem t26_3 : rc D b c26_3 ρ s = R26_3 b s (get ρ 0) := zr (by kernel_rfl)
@[go_sem] def R27_0 (_base : Nat) (s : St) (v0 v1 : V) : OR :=
 some (.normal, [(0, v0), (1, v1)], s)
@[go_sem] theorem t27_0 : rc D b c27_0 ρ s = R27_0 b s (get ρ 0) (get ρ 1) := zr (by kernel_rfl)
@[go_sem] def R27_1 (_base : Nat) (s : St) (v0 v1 : V) : OR :=
 obind (vbin .lss v0 (.int .i64 0)) fun x0 =>
 oguard x0 false (
   obind (vbin .gtr v0 v1) fun x1 =>
   oguard x1 false (
     obind (vbin .gtr v1 (.int .i64 1024)) fun x2 =>
     some (.normal, [(0, v0), (1, v1), (18, x2)], s)) (
     some (.normal, [(0, v0), (1, v1), (18, (.bool true))], s)) (
     none)) (
   some (.normal, [(0, v0), (1, v1), (18, (.bool true))], s)) (
   none)
@[go_sem] theorem t27_1 : rc D b c27_1 ρ s = R27_1 b s (get ρ 0) (get ρ 1) := zr (by kernel_rfl)
@[go_sem] def R27_2 (_base : Nat) (s : St) : OR :=
 some (.normal, [(4, .nilp), (5, (.int .i64 1))], s)
@[go_sem] theorem t27_2 : rc D b c27_2 ρ s = R27_2 b s := zr (by kernel_rfl)
@[go_sem] def R27_3 (_base : Nat) (s : St) (v0 v1 : V) : OR :=
 obind (setParts [(.int .i64 0), (.int .i64 0), (.agg 78 (List.replicate 16 (.int .u64 0))), (.agg 78 (List.replicate 16 (.int .u64 0)))] [(0, v0), (1, v1)]) fun x0 =>
 if V.ok (.agg 80 x0) && mayNew true (.agg 80 x0) then let x1 : V := .ptr (St.fresh s true) [] (V.tag (.agg 80 x0)); let s1 : St := St.new s true (.agg 80 x0)
 some (.normal, [(0, v0), (1, v1), (6, x1)], s1)
 else none
@[go_sem] theorem t27_3 : rc D b c27_3 ρ s = R27_3 b s (get ρ 0) (get ρ 1) := zr (by kernel_rfl)
@[go_sem] def R27_4 (_base : Nat) (s : St) (v0 v1 v6 : V) : OR :=
 obind (vbin .sub v1 v0) fun x0 =>
 some (.normal, [(0, v0), (6, v6), (25, x0), (26, (.int .i64 0))], s)
@[go_sem] theorem t27_4 : rc D b c27_4 ρ s = R27_4 b s (get ρ 0) (get ρ 1) (get ρ 6) := zr (by kernel_rfl)
@[go_sem] def R27_5 (_base : Nat) (s : St) (v0 v6 v25 v26 : V) : OR :=
 obind (vbin .lss v26 v25) fun x0 =>
 some (.normal, [(0, v0), (6, v6), (25, v25), (26, v26), (27, x0)], s)
@[go_sem] theorem t27_5 : rc D b c27_5 ρ s = R27_5 b s (get ρ 0) (get ρ 6) (get ρ 25) (get ρ 26) := zr (by kernel_rfl)
@[go_sem] def R27_6 (_base : Nat) (s : St) (v0 v6 v25 v26 : V) : OR :=
 some (.normal, [(0, v0), (6, v6), (7, v26), (25, v25), (26, v26)], s)
@[go_sem] theorem t27_6 : rc D b c27_6 ρ s = R27_6 b s (get ρ 0) (get ρ 6) (get ρ 25) (get ρ 26) := zr (by kernel_rfl)
@[go_sem] def R27_7 (_base : Nat) (s : St) (v0 v6 v7 v25 v26 : V) : OR :=
 obind (nilv v6) fun x0 =>
 obind (fadv 80 2 78 x0) fun x1 =>
 obind (vbin .add v0 v7) fun x2 =>
 obind (rf D f_frames_set_turn [x1, x2] s) fun x3 =>
 some (.normal, [(0, v0), (6, v6), (25, v25), (26, v26)], x3.2)
@[go_sem] theorem t27_7 : rc D b c27_7 ρ s = R27_7 b s (get ρ 0) (get ρ 6) (get ρ 7) (get ρ 25) (get ρ 26) := zr (by kernel_rfl)
@[go_sem] def R27_8 (_base : Nat) (s : St) (v0 v6 v25 v26 : V) : OR :=
 obind (vbin .add v26 (.int .i64 1)) fun x0 =>
 some (.normal, [(0, v0), (6, v6), (25, v25), (26, x0)], s)
@[go_sem] theorem t27_8 : rc D b c27_8 ρ s = R27_8 b s (get ρ 0) (get ρ 6) (get ρ 25) (get ρ 26) := zr (by kernel_rfl)
@[go_sem] def R27_9 (_base : Nat) (s : St) (v6 : V) : OR :=
 some (.normal, [(4, v6), (5, (.int .i64 0))], s)
@[go_sem] theorem t27_9 : rc D b c27_9 ρ s = R27_9 b s (get ρ 6) := zr (by kernel_rfl)
@[go_sem] def R28_0 (_base : Nat) (s : St) (v0 : V) : OR :=
 some (.normal, [(0, v0)], s)
@[go_sem] theorem t28_0 : rc D b c28_0 ρ s = R28_0 b s (get ρ 0) := zr (by kernel_rfl)
@[go_sem] def R28_1 (_base : Nat) (s : St) (v0 : V) : OR :=
 obind (nilv v0) fun x0 =>
 obind (fadv 59 0 1 x0) fun x1 =>
 obind (ldv s 1 x1) fun x2 =>
 obind (V.slen false x2) fun x3 =>
 some (.normal, [(2, (.int .i64 x3))], s)
@[go_sem] theorem t28_1 : rc D b c28_1 ρ s = R28_1 b s (get ρ 0) := zr (by kernel_rfl)
@[go_sem] def R29_0 (_base : Nat) (s : St) (v0 v1 : V) : OR :=
 some (.normal, [(0, v0), (1, v1)], s)
@[go_sem] theorem t29_0 : rc D b c29_0 ρ s = R29_0 b s (get ρ 0) (get ρ 1) := zr (by kernel_rfl)
@[go_sem] def R29_1 (_base : Nat) (s : St) (v0 v1 : V) : OR :=
 obind (rf D f_frames_Frames_in [v0, v1, (.int .i64 0)] s) fun x0 =>
 some (.normal, [(0, v0), (1, v1), (5, x0.1)], x0.2)
@[go_sem] theorem t29_1 : rc D b c29_1 ρ s = R29_1 b s (get ρ 0) (get ρ 1) := zr (by kernel_rfl)
@[go_sem] def R29_2 (_base : Nat) (s : St) (v0 v1 v5 : V) : OR :=
 obind (vbin .eql v5 (.int .i64 0)) fun x0 =>
 some (.normal, [(0, v0), (1, v1), (5, v5), (10, x0)], s)
@[go_sem] theorem t29_2 : rc D b c29_2 ρ s = R29_2 b s (get ρ 0) (get ρ 1) (get ρ 5) := zr (by kernel_rfl)
@[go_sem] def R29_3 (_base : Nat) (s : St) (v0 v1 v5 : V) : OR :=
 obind (nilv v0) fun x0 =>
 obind (fadv 80 2 78 x0) fun x1 =>
 obind (rf D f_frames_set_turn [x1, v1] s) fun x2 =>
 some (.normal, [(5, v5)], x2.2)
@[go_sem] theorem t29_3 : rc D b c29_3 ρ s = R29_3 b s (get ρ 0) (get ρ 1) (get ρ 5) := zr (by kernel_rfl)
@[go_sem] def R29_4 (_base : Nat) (s : St) (v5 : V) : OR :=
 some (.normal, [(4, v5)], s)
@[go_sem] theorem t29_4 : rc D b c29_4 ρ s = R29_4 b s (get ρ 5) := zr (by kernel_rfl)
@[go_sem] def R30_0 (base : Nat) (s : St) (v0 : V) : OR :=
 obind (setParts (List.replicate 1024 (.bool false)) []) fun x0 =>
 obind (nilv v0) fun x1 =>
 obind (fadv 43 7 82 x1) fun x2 =>
 obind (stv base s 82 (.agg 82 x0) x2) fun s3 =>
 some (.normal, [(0, v0)], s3)
@[go_sem] theorem t30_0 : rc D b c30_0 ρ s = R30_0 b s (get ρ 0) := zr (by kernel_rfl)
@[go_sem] def R30_1 (_base : Nat) (s : St) (v0 : V) : OR :=
 obind (nilv v0) fun x0 =>
 obind (fadv 43 7 82 x0) fun x1 =>
 obind (nilv v0) fun x2 =>
 obind (fadv 43 3 48 x2) fun x3 =>
 obind (ldv s 48 x3) fun x4 =>
 obind (rf D f_objects_lines_add [x1, x4] s) fun x5 =>
 some (.normal, [(0, v0)], x5.2)
@[go_sem] theorem t30_1 : rc D b c30_1 ρ s = R30_1 b s (get ρ 0) := zd (by kernel_rfl)
@[go_sem] def R30_2 (_base : Nat) (s : St) (v0 : V) : OR :=
 obind (nilv v0) fun x0 =>
 obind (fadv 43 6 0 x0) fun x1 =>
 obind (ldv s 0 x1) fun x2 =>
 some (.normal, [(0, v0), (17, x2)], s)
@[go_sem] theorem t30_2 : rc D b c30_2 ρ s = R30_2 b s (get ρ 0) := zr (by kernel_rfl)
@[go_sem] def R30_3 (_base : Nat) (s : St) (v0 : V) : OR :=
 obind (nilv v0) fun x0 =>
 obind (fadv 43 7 82 x0) fun x1 =>
 obind (nilv v0) fun x2 =>
 obind (fadv 43 5 48 x2) fun x3 =>
 obind (ldv s 48 x3) fun x4 =>
 obind (rf D f_objects_lines_add [x1, x4] s) fun x5 =>
 some (.normal, [], x5.2)
@[go_sem] theorem t30_3 : rc D b c30_3 ρ s = R30_3 b s (get ρ 0) := zd (by kernel_rfl)
@[go_sem] def R31_0 (_base : Nat) (s : St) (v0 v1 : V) : OR :=
 some (.normal, [(0, v0), (1, v1)], s)
@[go_sem] theorem t31_0 : rc D b c31_0 ρ s = R31_0 b s (get ρ 0) (get ρ 1) := zr (by kernel_rfl)
@[go_sem] def R31_1 (_base : Nat) (s : St) (v0 v1 : V) : OR :=
 obind (vbin .lss v0 (.int .i64 0)) fun x0 =>
 oguard x0 false (
   obind (vbin .gtr v0 v1) fun x1 =>
   oguard x1 false (
     obind (vbin .gtr v1 (.int .i64 1024)) fun x2 =>
     some (.normal, [(0, v0), (1, v1), (16, x2)], s)) (
     some (.normal, [(0, v0), (1, v1), (16, (.bool true))], s)) (
     none)) (
   some (.normal, [(0, v0), (1, v1), (16, (.bool true))], s)) (
   none)
@[go_sem] theorem t31_1 : rc D b c31_1 ρ s = R31_1 b s (get ρ 0) (get ρ 1) := zr (by kernel_rfl)
@[go_sem] def R31_2 (_base : Nat) (s : St) : OR :=
 some (.normal, [(4, .nilp), (5, (.int .i64 1))], s)
@[go_sem] theorem t31_2 : rc D b c31_2 ρ s = R31_2 b s := zr (by kernel_rfl)
@[go_sem] def R31_3 (_base : Nat) (s : St) (v0 v1 : V) : OR :=
 obind (vbin .sub v1 v0) fun x0 =>
 obind (mkslv true 38 10 (.int .i64 0) s x0 x0) fun x1 =>
 obind (setParts [(.int .i64 0), .nils] [(0, v0), (1, x1.1)]) fun x2 =>
 if V.ok (.agg 21 x2) && mayNew true (.agg 21 x2) then let x3 : V := .ptr (St.fresh x1.2 true) [] (V.tag (.agg 21 x2)); let s3 : St := St.new x1.2 true (.agg 21 x2)
 some (.normal, [(4, x3), (5, (.int .i64 0))], s3)
 else none
@[go_sem] theorem t31_3 : rc D b c31_3 ρ s = R31_3 b s (get ρ 0) (get ρ 1) := zr (by kernel_rfl)
@[go_sem] def R32_0 (_base : Nat) (s : St) (v0 : V) : OR :=
 if V.ok v0 && mayNew false v0 then let x0 : V := .ptr (St.fresh s false) [] (V.tag v0); let s0 : St := St.new s false v0
 some (.normal, [(1, x0)], s0)
 else none
@[go_sem] theorem t32_0 : rc D b c32_0 ρ s = R32_0 b s (get ρ 0) := zr (by kernel_rfl)
@[go_sem] def R32_1 (_base : Nat) (s : St) (v1 : V) : OR :=
 some (.normal, [(1, v1), (3, .nils)], s)
@[go_sem] theorem t32_1 : rc D b c32_1 ρ s = R32_1 b s (get ρ 1) := zr (by kernel_rfl)
@[go_sem] def R32_2 (_base : Nat) (s : St) (v1 v3 : V) : OR :=
 some (.normal, [(1, v1), (3, v3), (4, (.int .i64 0))], s)
@[go_sem] theorem t32_2 : rc D b c32_2 ρ s = R32_2 b s (get ρ 1) (get ρ 3) := zr (by kernel_rfl)
@[go_sem] def R32_3 (_base : Nat) (s : St) (v1 v3 v4 : V) : OR :=
 obind (vbin .lss v4 (.int .i64 49)) fun x0 =>
 some (.normal, [(1, v1), (3, v3), (4, v4), (6, x0)], s)
@[go_sem] theorem t32_3 : rc D b c32_3 ρ s = R32_3 b s (get ρ 1) (get ρ 3) (get ρ 4) := zr (by kernel_rfl)
@[go_sem] def R32_4 (_base : Nat) (s : St) (v1 v3 v4 : V) : OR :=
 obind (iadv 48 49 42 v1 v4) fun x0 =>
 obind (fadv 42 0 10 x0) fun x1 =>
 obind (ldv s 10 x1) fun x2 =>
 obind (vbin .neq x2 (.int .i64 0)) fun x3 =>
 some (.normal, [(1, v1), (3, v3), (4, v4), (13, x3)], s)
@[go_sem] theorem t32_4 : rc D b c32_4 ρ s = R32_4 b s (get ρ 1) (get ρ 3) (get ρ 4) := zr (by kernel_rfl)
@[go_sem] def R32_5 (base : Nat) (s : St) (v1 v3 v4 : V) : OR :=
 obind (iadv 48 49 42 v1 v4) fun x0 =>
 obind (fadv 42 2 10 x0) fun x1 =>
 obind (ldv s 10 x1) fun x2 =>
 obind (bslv false 38 10 1 (.int .i64 0) s [(0, x2)]) fun x3 =>
 obind (vappend base true 38 10 v3 x3.1 x3.2) fun x4 =>
 some (.normal, [(1, v1), (3, x4.1), (4, v4)], x4.2)
@[go_sem] theorem t32_5 : rc D b c32_5 ρ s = R32_5 b s (get ρ 1) (get ρ 3) (get ρ 4) := zr (by kernel_rfl)
@[go_sem] def R32_6 (_base : Nat) (s : St) (v1 v3 v4 : V) : OR :=
 obind (vbin .add v4 (.int .i64 1)) fun x0 =>
 some (.normal, [(1, v1), (3, v3), (4, x0)], s)
@[go_sem] theorem t32_6 : rc D b c32_6 ρ s = R32_6 b s (get ρ 1) (get ρ 3) (get ρ 4) := zr (by kernel_rfl)
@[go_sem] def R32_7 (_base : Nat) (s : St) (v3 : V) : OR :=
 some (.normal, [(2, v3)], s)
@[go_sem] theorem t32_7 : rc D b c32_7 ρ s = R32_7 b s (get ρ 3) := zr (by kernel_rfl)
@[go_sem] def R33_0 (_base : Nat) (s : St) (v0 v1 : V) : OR :=
 some (.normal, [(0, v0), (1, v1)], s)
@[go_sem] theorem t33_0 : rc D b c33_0 ρ s = R33_0 b s (get ρ 0) (get ρ 1) := zr (by kernel_rfl)
@[go_sem] def R33_1 (_base : Nat) (s : St) (v0 v1 : V) : OR :=
 obind (rf D f_steadfastref04_Frames_turn [v0, v1, (.int .i64 0), (.int .i64 1)] s) fun x0 =>
 some (.normal, [(4, x0.1)], x0.2)
@[go_sem] theorem t33_1 : rc D b c33_1 ρ s = R33_1 b s (get ρ 0) (get ρ 1) := zr (by kernel_rfl)
@[go_sem] def R34_0 (_base : Nat) (s : St) (v0 : V) : OR :=
 if V.ok v0 && mayNew false v0 then let x0 : V := .ptr (St.fresh s false) [] (V.tag v0); let s0 : St := St.new s false v0
 some (.normal, [(1, x0)], s0)
 else none
@[go_sem] theorem t34_0 : rc D b c34_0 ρ s = R34_0 b s (get ρ 0) := zr (by kernel_rfl)
@[go_sem] def R34_1 (_base : Nat) (s : St) (v1 : V) : OR :=
 obind (fadv 42 0 10 v1) fun x0 =>
 obind (ldv s 10 x0) fun x1 =>
 obind (vbin .eql x1 (.int .i64 0)) fun x2 =>
 oguard x2 true (
   obind (fadv 42 1 10 v1) fun x3 =>
   obind (ldv s 10 x3) fun x4 =>
   obind (vbin .lss x4 (.int .i64 16777215)) fun x5 =>
   some (.normal, [(2, x5)], s)) (
   some (.normal, [(2, (.bool false))], s)) (
   none)
@[go_sem] theorem t34_1 : rc D b c34_1 ρ s = R34_1 b s (get ρ 1) := zr (by kernel_rfl)
@[go_sem] def R35_0 (_base : Nat) (s : St) (v0 : V) : OR :=
 if V.ok v0 && mayNew false v0 then let x0 : V := .ptr (St.fresh s false) [] (V.tag v0); let s0 : St := St.new s false v0
 some (.normal, [(1, x0)], s0)
 else none
@[go_sem] theorem t35_0 : rc D b c35_0 ρ s = R35_0 b s (get ρ 0) := zr (by kernel_rfl)
@[go_sem] def R35_1 (_base : Nat) (s : St) (v1 : V) : OR :=
 obind (fadv 40 0 10 v1) fun x0 =>
 obind (ldv s 10 x0) fun x1 =>
 obind (vbin .eql x1 (.int .i64 5)) fun x2 =>
 oguard x2 false (
   obind (fadv 40 0 10 v1) fun x3 =>
   obind (ldv s 10 x3) fun x4 =>
   obind (vbin .eql x4 (.int .i64 6)) fun x5 =>
   some (.normal, [(1, v1), (3, x5)], s)) (
   some (.normal, [(1, v1), (3, (.bool true))], s)) (
   none)
@[go_sem] theorem t35_1 : rc D b c35_1 ρ s = R35_1 b s (get ρ 1) := zr (by kernel_rfl)
@[go_sem] def R35_2 (_base : Nat) (s : St) (v1 v3 : V) : OR :=
 obind (fadv 40 0 10 v1) fun x0 =>
 obind (ldv s 10 x0) fun x1 =>
 obind (rf D f_caps_within [x1, (.int .i64 1), (.int .i64 6)] s) fun x2 =>
 oguard x2.1 true (
   obind (fadv 40 1 10 v1) fun x3 =>
   obind (ldv x2.2 10 x3) fun x4 =>
   obind (rf D f_caps_within [x4, (.int .i64 0), (.int .i64 15)] x2.2) fun x5 =>
   oguard x5.1 true (
     obind (fadv 40 2 10 v1) fun x6 =>
     obind (ldv x5.2 10 x6) fun x7 =>
     obind (rf D f_caps_within [x7, (.int .i64 0), (.int .i64 48)] x5.2) fun x8 =>
     oguard x8.1 true (
       obind (fadv 40 3 10 v1) fun x9 =>
       obind (ldv x8.2 10 x9) fun x10 =>
       obind (rf D f_caps_within [x10, (.int .i64 0), (.int .i64 16777215)] x8.2) fun x11 =>
       oguard x11.1 true (
         obind (fadv 40 4 10 v1) fun x12 =>
         obind (ldv x11.2 10 x12) fun x13 =>
         obind (rf D f_caps_within [x13, (.int .i64 0), (.int .i64 65535)] x11.2) fun x14 =>
         oguard x14.1 true (
           obind (vun .not v3) fun x15 =>
           oguard x15 false (
             obind (fadv 40 2 10 v1) fun x16 =>
             obind (ldv x14.2 10 x16) fun x17 =>
             obind (vbin .eql x17 (.int .i64 0)) fun x18 =>
             oguard x18 true (
               obind (fadv 40 3 10 v1) fun x19 =>
               obind (ldv x14.2 10 x19) fun x20 =>
               obind (vbin .eql x20 (.int .i64 0)) fun x21 =>
               some (.normal, [(2, x21)], x14.2)) (
               some (.normal, [(2, (.bool false))], x14.2)) (
               none)) (
             some (.normal, [(2, (.bool true))], x14.2)) (
             none)) (
           some (.normal, [(2, (.bool false))], x14.2)) (
           none)) (
         some (.normal, [(2, (.bool false))], x11.2)) (
         none)) (
       some (.normal, [(2, (.bool false))], x8.2)) (
       none)) (
     some (.normal, [(2, (.bool false))], x5.2)) (
     none)) (
   some (.normal, [(2, (.bool false))], x2.2)) (
   none)
@[go_sem] theorem t35_2 : rc D b c35_2 ρ s = R35_2 b s (get ρ 1) (get ρ 3) := zr (by kernel_rfl)
@[go_sem] def R36_0 (_base : Nat) (s : St) (v0 : V) : OR :=
 let x0 : V := .ptr (St.fresh s false) [] 40; let s0 : St := St.new s false (.agg 40 [(.int .i64 0), (.int .i64 0), (.int .i64 0), (.int .i64 0), (.int .i64 0)])
 some (.normal, [(0, v0), (2, x0)], s0)
@[go_sem] theorem t36_0 : rc D b c36_0 ρ s = R36_0 b s (get ρ 0) := zr (by kernel_rfl)
@[go_sem] def R36_1 (base : Nat) (s : St) (v0 v2 : V) : OR :=
 obind (rf D f_steadfastref01_Field [v0, (.int .i64 0), (.int .i64 4)] s) fun x0 =>
 obind (convv .i64 x0.1) fun x1 =>
 obind (rf D f_steadfastref01_Field [v0, (.int .i64 4), (.int .i64 4)] x0.2) fun x2 =>
 obind (convv .i64 x2.1) fun x3 =>
 obind (rf D f_steadfastref01_Field [v0, (.int .i64 8), (.int .i64 16)] x2.2) fun x4 =>
 obind (convv .i64 x4.1) fun x5 =>
 obind (rf D f_steadfastref01_Field [v0, (.int .i64 24), (.int .i64 24)] x4.2) fun x6 =>
 obind (convv .i64 x6.1) fun x7 =>
 obind (rf D f_steadfastref01_Field [v0, (.int .i64 48), (.int .i64 16)] x6.2) fun x8 =>
 obind (convv .i64 x8.1) fun x9 =>
 obind (setParts [(.int .i64 0), (.int .i64 0), (.int .i64 0), (.int .i64 0), (.int .i64 0)] [(0, x1), (1, x3), (2, x5), (3, x7), (4, x9)]) fun x10 =>
 let x11 : V := .ptr (St.fresh x8.2 false) [] 40; let s11 : St := St.new x8.2 false (.agg 40 [(.int .i64 0), (.int .i64 0), (.int .i64 0), (.int .i64 0), (.int .i64 0)])
 obind (stv base s11 40 (.agg 40 x10) x11) fun s12 =>
 some (.normal, [(0, v0), (2, v2), (4, x11)], s12)
@[go_sem] theorem t36_1 : rc D b c36_1 ρ s = R36_1 b s (get ρ 0) (get ρ 2) := zr (by kernel_rfl)
@[go_sem] def R36_2 (_base : Nat) (s : St) (v0 v2 v4 : V) : OR :=
 obind (ldv s 40 v4) fun x0 =>
 obind (rf D f_steadfastref07_Word [x0] s) fun x1 =>
 obind (extv 0 x1.1) fun x2 =>
 obind (extv 1 x1.1) fun x3 =>
 some (.normal, [(0, v0), (2, v2), (4, v4), (5, x2), (6, x3)], x1.2)
@[go_sem] theorem t36_2 : rc D b c36_2 ρ s = R36_2 b s (get ρ 0) (get ρ 2) (get ρ 4) := zr (by kernel_rfl)
@[go_sem] def R36_3 (_base : Nat) (s : St) (v0 v2 v4 v5 v6 : V) : OR :=
 obind (vbin .neq v6 (.int .i64 0)) fun x0 =>
 oguard x0 false (
   obind (vbin .neq v5 v0) fun x1 =>
   some (.normal, [(2, v2), (4, v4), (34, x1)], s)) (
   some (.normal, [(2, v2), (4, v4), (34, (.bool true))], s)) (
   none)
@[go_sem] theorem t36_3 : rc D b c36_3 ρ s = R36_3 b s (get ρ 0) (get ρ 2) (get ρ 4) (get ρ 5) (get ρ 6) := zr (by kernel_rfl)
@[go_sem] def R36_4 (base : Nat) (s : St) (v2 : V) : OR :=
 obind (setParts [(.int .i64 0), (.int .i64 0), (.int .i64 0), (.int .i64 0), (.int .i64 0)] []) fun x0 =>
 obind (stv base s 40 (.agg 40 x0) v2) fun s1 =>
 some (.normal, [(2, v2), (3, (.bool false))], s1)
@[go_sem] theorem t36_4 : rc D b c36_4 ρ s = R36_4 b s (get ρ 2) := zr (by kernel_rfl)
@[go_sem] def R36_5 (base : Nat) (s : St) (v2 v4 : V) : OR :=
 obind (ldv s 40 v4) fun x0 =>
 obind (stv base s 40 x0 v2) fun s1 =>
 some (.normal, [(2, v2), (3, (.bool true))], s1)
@[go_sem] theorem t36_5 : rc D b c36_5 ρ s = R36_5 b s (get ρ 2) (get ρ 4) := zr (by kernel_rfl)
@[go_sem] def R37_0 (_base : Nat) (s : St) (v0 : V) : OR :=
 if V.ok v0 && mayNew false v0 then let x0 : V := .ptr (St.fresh s false) [] (V.tag v0); let s0 : St := St.new s false v0
 some (.normal, [(1, x0)], s0)
 else none
@[go_sem] theorem t37_0 : rc D b c37_0 ρ s = R37_0 b s (get ρ 0) := zr (by kernel_rfl)
@[go_sem] def R37_1 (_base : Nat) (s : St) (v1 : V) : OR :=
 obind (fadv 42 0 10 v1) fun x0 =>
 obind (ldv s 10 x0) fun x1 =>
 obind (vbin .eql x1 (.int .i64 0)) fun x2 =>
 oguard x2 true (
   obind (fadv 42 1 10 v1) fun x3 =>
   obind (ldv s 10 x3) fun x4 =>
   obind (vbin .lss x4 (.int .i64 16777215)) fun x5 =>
   some (.normal, [(2, x5)], s)) (
   some (.normal, [(2, (.bool false))], s)) (
   none)
@[go_sem] theorem t37_1 : rc D b c37_1 ρ s = R37_1 b s (get ρ 1) := zr (by kernel_rfl)
@[go_sem] def R38_0 (_base : Nat) (s : St) (v0 : V) : OR :=
 some (.normal, [(0, v0)], s)
@[go_sem] theorem t38_0 : rc D b c38_0 ρ s = R38_0 b s (get ρ 0) := zr (by kernel_rfl)
@[go_sem] def R38_1 (_base : Nat) (s : St) (v0 : V) : OR :=
 obind (nilv v0) fun x0 =>
 obind (fadv 80 2 78 x0) fun x1 =>
 obind (ldv s 78 x1) fun x2 =>
 some (.normal, [(0, v0), (10, x2), (11, (.int .i64 0))], s)
@[go_sem] theorem t38_1 : rc D b c38_1 ρ s = R38_1 b s (get ρ 0) := zr (by kernel_rfl)
@[go_sem] def R38_2 (_base : Nat) (s : St) (v0 v10 v11 : V) : OR :=
 obind (vbin .lss v11 (.int .i64 16)) fun x0 =>
 some (.normal, [(0, v0), (10, v10), (11, v11), (12, x0)], s)
@[go_sem] theorem t38_2 : rc D b c38_2 ρ s = R38_2 b s (get ρ 0) (get ρ 10) (get ρ 11) := zr (by kernel_rfl)
@[go_sem] def R38_3 (_base : Nat) (s : St) (v0 v10 v11 : V) : OR :=
 obind (idxv 78 16 v10 v11) fun x0 =>
 some (.normal, [(0, v0), (4, v11), (5, x0), (10, v10), (11, v11)], s)
@[go_sem] theorem t38_3 : rc D b c38_3 ρ s = R38_3 b s (get ρ 0) (get ρ 10) (get ρ 11) := zr (by kernel_rfl)
@[go_sem] def R38_4 (_base : Nat) (s : St) (v0 v4 v5 v10 v11 : V) : OR :=
 obind (vbin .neq v5 (.int .u64 0)) fun x0 =>
 some (.normal, [(0, v0), (4, v4), (5, v5), (10, v10), (11, v11), (16, x0)], s)
@[go_sem] theorem t38_4 : rc D b c38_4 ρ s = R38_4 b s (get ρ 0) (get ρ 4) (get ρ 5) (get ρ 10) (get ρ 11) := zr (by kernel_rfl)
@[go_sem] def R38_5 (_base : Nat) (s : St) (v0 v4 v5 : V) : OR :=
 obind (vbin .mul (.int .i64 64) v4) fun x0 =>
 obind (rf D f_math_bits_TrailingZeros64 [v5] s) fun x1 =>
 obind (vbin .add x0 x1.1) fun x2 =>
 some (.normal, [(0, v0), (6, x2)], x1.2)
@[go_sem] theorem t38_5 : rc D b c38_5 ρ s = R38_5 b s (get ρ 0) (get ρ 4) (get ρ 5) := zr (by kernel_rfl)
@[go_sem] def R38_6 (_base : Nat) (s : St) (v0 v6 : V) : OR :=
 obind (nilv v0) fun x0 =>
 obind (fadv 80 2 78 x0) fun x1 =>
 obind (rf D f_frames_set_turn [x1, v6] s) fun x2 =>
 some (.normal, [(6, v6)], x2.2)
@[go_sem] theorem t38_6 : rc D b c38_6 ρ s = R38_6 b s (get ρ 0) (get ρ 6) := zr (by kernel_rfl)
@[go_sem] def R38_7 (_base : Nat) (s : St) (v6 : V) : OR :=
 some (.normal, [(2, v6), (3, (.int .i64 0))], s)
@[go_sem] theorem t38_7 : rc D b c38_7 ρ s = R38_7 b s (get ρ 6) := zr (by kernel_rfl)
@[go_sem] def R38_8 (_base : Nat) (s : St) (v0 v10 v11 : V) : OR :=
 obind (vbin .add v11 (.int .i64 1)) fun x0 =>
 some (.normal, [(0, v0), (10, v10), (11, x0)], s)
@[go_sem] theorem t38_8 : rc D b c38_8 ρ s = R38_8 b s (get ρ 0) (get ρ 10) (get ρ 11) := zr (by kernel_rfl)
@[go_sem] def R38_9 (_base : Nat) (s : St) : OR :=
 some (.normal, [(2, (.int .i64 0)), (3, (.int .i64 10))], s)
@[go_sem] theorem t38_9 : rc D b c38_9 ρ s = R38_9 b s := zr (by kernel_rfl)
@[go_sem] def R39_0 (_base : Nat) (s : St) (v0 v1 v2 v3 : V) : OR :=
 some (.normal, [(0, v0), (1, v1), (2, v2), (3, v3)], s)
@[go_sem] theorem t39_0 : rc D b c39_0 ρ s = R39_0 b s (get ρ 0) (get ρ 1) (get ρ 2) (get ρ 3) := zr (by kernel_rfl)
@[go_sem] def R39_1 (_base : Nat) (s : St) (v0 v1 v2 v3 : V) : OR :=
 obind (rf D f_nvm_Memory_at [v0, v1] s) fun x0 =>
 some (.normal, [(0, v0), (2, v2), (3, v3), (9, x0.1)], x0.2)
@[go_sem] theorem t39_1 : rc D b c39_1 ρ s = R39_1 b s (get ρ 0) (get ρ 1) (get ρ 2) (get ρ 3) := zr (by kernel_rfl)
@[go_sem] def R39_2 (_base : Nat) (s : St) (v0 v2 v3 v9 : V) : OR :=
 obind (eqv false 1 v9 .nilp) fun x0 =>
 oguard x0 false (
   obind (vbin .lss v2 (.int .i64 0)) fun x1 =>
   oguard x1 false (
     obind (vbin .geq v2 (.int .i64 8)) fun x2 =>
     some (.normal, [(0, v0), (2, v2), (3, v3), (9, v9), (23, x2)], s)) (
     some (.normal, [(0, v0), (2, v2), (3, v3), (9, v9), (23, (.bool true))], s)) (
     none)) (
   some (.normal, [(0, v0), (2, v2), (3, v3), (9, v9), (23, (.bool true))], s)) (
   none)
@[go_sem] theorem t39_2 : rc D b c39_2 ρ s = R39_2 b s (get ρ 0) (get ρ 2) (get ρ 3) (get ρ 9) := zr (by kernel_rfl)
@[go_sem] def R39_3 (_base : Nat) (s : St) : OR :=
 some (.normal, [(8, (.int .i64 1))], s)
@[go_sem] theorem t39_3 : rc D b c39_3 ρ s = R39_3 b s := zr (by kernel_rfl)
@[go_sem] def R39_4 (_base : Nat) (s : St) (v0 v2 v3 v9 : V) : OR :=
 obind (rf D f_nvm_Memory_step [v0] s) fun x0 =>
 some (.normal, [(2, v2), (3, v3), (9, v9), (10, x0.1)], x0.2)
@[go_sem] theorem t39_4 : rc D b c39_4 ρ s = R39_4 b s (get ρ 0) (get ρ 2) (get ρ 3) (get ρ 9) := zr (by kernel_rfl)
@[go_sem] def R39_5 (_base : Nat) (s : St) (v2 v3 v9 v10 : V) : OR :=
 obind (vbin .neq v10 (.int .i64 0)) fun x0 =>
 some (.normal, [(2, v2), (3, v3), (9, v9), (10, v10), (27, x0)], s)
@[go_sem] theorem t39_5 : rc D b c39_5 ρ s = R39_5 b s (get ρ 2) (get ρ 3) (get ρ 9) (get ρ 10) := zr (by kernel_rfl)
@[go_sem] def R39_6 (_base : Nat) (s : St) (v10 : V) : OR :=
 some (.normal, [(8, v10)], s)
@[go_sem] theorem t39_6 : rc D b c39_6 ρ s = R39_6 b s (get ρ 10) := zr (by kernel_rfl)
@[go_sem] def R39_7 (base : Nat) (s : St) (v2 v3 v9 : V) : OR :=
 obind (nilv v9) fun x0 =>
 obind (fadv 55 0 24 x0) fun x1 =>
 obind (iadv 24 8 18 x1 v2) fun x2 =>
 obind (stv base s 18 v3 x2) fun s3 =>
 some (.normal, [(2, v2), (3, v3), (9, v9)], s3)
@[go_sem] theorem t39_7 : rc D b c39_7 ρ s = R39_7 b s (get ρ 2) (get ρ 3) (get ρ 9) := zr (by kernel_rfl)
@[go_sem] def R39_8 (base : Nat) (s : St) (v2 v3 v9 : V) : OR :=
 obind (nilv v9) fun x0 =>
 obind (fadv 55 2 1 x0) fun x1 =>
 obind (ldv s 1 x1) fun x2 =>
 obind (setParts [(.int .i64 0), (.int .u64 0)] [(0, v2), (1, v3)]) fun x3 =>
 obind (bslv false 86 84 1 (.agg 84 [(.int .i64 0), (.int .u64 0)]) s [(0, (.agg 84 x3))]) fun x4 =>
 obind (vappend base true 86 84 x2 x4.1 x4.2) fun x5 =>
 obind (nilv v9) fun x6 =>
 obind (fadv 55 2 1 x6) fun x7 =>
 obind (stv base x5.2 1 x5.1 x7) fun s8 =>
 some (.normal, [], s8)
@[go_sem] theorem t39_8 : rc D b c39_8 ρ s = R39_8 b s (get ρ 2) (get ρ 3) (get ρ 9) := zr (by kernel_rfl)
@[go_sem] def R39_9 (_base : Nat) (s : St) : OR :=
 some (.normal, [(8, (.int .i64 0))], s)
@[go_sem] theorem t39_9 : rc D b c39_9 ρ s = R39_9 b s := zr (by kernel_rfl)
@[go_sem] def R40_0 (_base : Nat) (s : St) (v0 v1 : V) : OR :=
 some (.normal, [(0, v0), (1, v1)], s)
@[go_sem] theorem t40_0 : rc D b c40_0 ρ s = R40_0 b s (get ρ 0) (get ρ 1) := zr (by kernel_rfl)
@[go_sem] def R40_1 (_base : Nat) (s : St) (v0 v1 : V) : OR :=
 obind (vbin .geq v0 (.int .i64 0)) fun x0 =>
 oguard x0 true (
   obind (vbin .leq v0 (.int .i64 63)) fun x1 =>
   oguard x1 true (
     obind (vbin .geq v1 (.int .i64 1)) fun x2 =>
     oguard x2 true (
       obind (vbin .leq v1 (.int .i64 64)) fun x3 =>
       oguard x3 true (
         obind (vbin .add v0 v1) fun x4 =>
         obind (vbin .leq x4 (.int .i64 64)) fun x5 =>
         some (.normal, [(4, x5)], s)) (
         some (.normal, [(4, (.bool false))], s)) (
         none)) (
       some (.normal, [(4, (.bool false))], s)) (
       none)) (
     some (.normal, [(4, (.bool false))], s)) (
     none)) (
   some (.normal, [(4, (.bool false))], s)) (
   none)
@[go_sem] theorem t40_1 : rc D b c40_1 ρ s = R40_1 b s (get ρ 0) (get ρ 1) := zr (by kernel_rfl)
@[go_sem] def R41_0 (_base : Nat) (s : St) (v0 v1 : V) : OR :=
 some (.normal, [(0, v0), (1, v1)], s)
@[go_sem] theorem t41_0 : rc D b c41_0 ρ s = R41_0 b s (get ρ 0) (get ρ 1) := zr (by kernel_rfl)
@[go_sem] def R41_1 (_base : Nat) (s : St) (v0 v1 : V) : OR :=
 obind (vbin .shr v0 v1) fun x0 =>
 obind (vbin .and x0 (.int .u64 1)) fun x1 =>
 some (.normal, [(4, x1)], s)
@[go_sem] theorem t41_1 : rc D b c41_1 ρ s = R41_1 b s (get ρ 0) (get ρ 1) := zr (by kernel_rfl)
@[go_sem] def R42_0 (base : Nat) (s : St) (v0 v1 : V) : OR :=
 obind (vbin .quo v1 (.int .i64 64)) fun x0 =>
 obind (nilv v0) fun x1 =>
 obind (iadv 78 16 18 x1 x0) fun x2 =>
 obind (ldv s 18 x2) fun x3 =>
 obind (vbin .rem v1 (.int .i64 64)) fun x4 =>
 obind (vbin .shl (.int .u64 1) x4) fun x5 =>
 obind (vbin .xor x3 x5) fun x6 =>
 obind (nilv v0) fun x7 =>
 obind (iadv 78 16 18 x7 x0) fun x8 =>
 obind (stv base s 18 x6 x8) fun s9 =>
 some (.normal, [], s9)
@[go_sem] theorem t42_0 : rc D b c42_0 ρ s = R42_0 b s (get ρ 0) (get ρ 1) := zd (by kernel_rfl)
@[go_sem] def R43_0 (_base : Nat) (s : St) (v0 v1 v2 : V) : OR :=
 some (.normal, [(0, v0), (1, v1), (2, v2)], s)
@[go_sem] theorem t43_0 : rc D b c43_0 ρ s = R43_0 b s (get ρ 0) (get ρ 1) (get ρ 2) := zr (by kernel_rfl)
@[go_sem] def R43_1 (_base : Nat) (s : St) (v0 v1 v2 : V) : OR :=
 obind (rf D f_frames_Frames_State [v0, v1] s) fun x0 =>
 some (.normal, [(2, v2), (9, x0.1)], x0.2)
@[go_sem] theorem t43_1 : rc D b c43_1 ρ s = R43_1 b s (get ρ 0) (get ρ 1) (get ρ 2) := zr (by kernel_rfl)
@[go_sem] def R43_2 (_base : Nat) (s : St) (v2 v9 : V) : OR :=
 obind (vbin .eql v9 (.int .i64 (-1))) fun x0 =>
 some (.normal, [(2, v2), (9, v9), (10, x0)], s)
@[go_sem] theorem t43_2 : rc D b c43_2 ρ s = R43_2 b s (get ρ 2) (get ρ 9) := zr (by kernel_rfl)
@[go_sem] def R43_3 (_base : Nat) (s : St) : OR :=
 some (.normal, [(6, (.int .i64 1))], s)
@[go_sem] theorem t43_3 : rc D b c43_3 ρ s = R43_3 b s := zr (by kernel_rfl)
@[go_sem] def R43_4 (_base : Nat) (s : St) (v2 v9 : V) : OR :=
 obind (vbin .eql v9 v2) fun x0 =>
 some (.normal, [(12, x0)], s)
@[go_sem] theorem t43_4 : rc D b c43_4 ρ s = R43_4 b s (get ρ 2) (get ρ 9) := zr (by kernel_rfl)
@[go_sem] def R43_5 (_base : Nat) (s : St) : OR :=
 some (.normal, [(6, (.int .i64 0))], s)
@[go_sem] theorem t43_5 : rc D b c43_5 ρ s = R43_5 b s := zr (by kernel_rfl)
@[go_sem] def R43_6 (_base : Nat) (s : St) : OR :=
 some (.normal, [(6, (.int .i64 3))], s)
@[go_sem] theorem t43_6 : rc D b c43_6 ρ s = R43_6 b s := zr (by kernel_rfl)
@[go_sem] def R44_0 (_base : Nat) (s : St) (v0 v1 : V) : OR :=
 if V.ok v1 && mayNew false v1 then let x0 : V := .ptr (St.fresh s false) [] (V.tag v1); let s0 : St := St.new s false v1
 some (.normal, [(0, v0), (3, x0)], s0)
 else none
@[go_sem] theorem t44_0 : rc D b c44_0 ρ s = R44_0 b s (get ρ 0) (get ρ 1) := zr (by kernel_rfl)
@[go_sem] def R44_1 (_base : Nat) (s : St) (v0 v3 : V) : OR :=
 obind (ldv s 48 v3) fun x0 =>
 some (.normal, [(0, v0), (6, x0), (7, (.int .i64 0))], s)
@[go_sem] theorem t44_1 : rc D b c44_1 ρ s = R44_1 b s (get ρ 0) (get ρ 3) := zr (by kernel_rfl)
@[go_sem] def R44_2 (_base : Nat) (s : St) (v0 v6 v7 : V) : OR :=
 obind (vbin .lss v7 (.int .i64 49)) fun x0 =>
 some (.normal, [(0, v0), (6, v6), (7, v7), (8, x0)], s)
@[go_sem] theorem t44_2 : rc D b c44_2 ρ s = R44_2 b s (get ρ 0) (get ρ 6) (get ρ 7) := zr (by kernel_rfl)
@[go_sem] def R44_3 (base : Nat) (s : St) (v0 v6 v7 : V) : OR :=
 obind (idxv 48 49 v6 v7) fun x0 =>
 let x1 : V := .ptr (St.fresh s false) [] 42; let s1 : St := St.new s false (.agg 42 [(.int .i64 0), (.int .i64 0), (.int .i64 0)])
 obind (stv base s1 42 x0 x1) fun s2 =>
 some (.normal, [(0, v0), (5, x1), (6, v6), (7, v7)], s2)
@[go_sem] theorem t44_3 : rc D b c44_3 ρ s = R44_3 b s (get ρ 0) (get ρ 6) (get ρ 7) := zr (by kernel_rfl)
@[go_sem] def R44_4 (_base : Nat) (s : St) (v0 v5 v6 v7 : V) : OR :=
 obind (fadv 42 0 10 v5) fun x0 =>
 obind (ldv s 10 x0) fun x1 =>
 obind (vbin .neq x1 (.int .i64 0)) fun x2 =>
 some (.normal, [(0, v0), (5, v5), (6, v6), (7, v7), (12, x2)], s)
@[go_sem] theorem t44_4 : rc D b c44_4 ρ s = R44_4 b s (get ρ 0) (get ρ 5) (get ρ 6) (get ρ 7) := zr (by kernel_rfl)
@[go_sem] def R44_5 (base : Nat) (s : St) (v0 v5 v6 v7 : V) : OR :=
 obind (fadv 42 2 10 v5) fun x0 =>
 obind (ldv s 10 x0) fun x1 =>
 obind (nilv v0) fun x2 =>
 obind (iadv 82 1024 0 x2 x1) fun x3 =>
 obind (stv base s 0 (.bool true) x3) fun s4 =>
 some (.normal, [(0, v0), (6, v6), (7, v7)], s4)
@[go_sem] theorem t44_5 : rc D b c44_5 ρ s = R44_5 b s (get ρ 0) (get ρ 5) (get ρ 6) (get ρ 7) := zd (by kernel_rfl)
@[go_sem] def R44_6 (_base : Nat) (s : St) (v0 v6 v7 : V) : OR :=
 obind (vbin .add v7 (.int .i64 1)) fun x0 =>
 some (.normal, [(0, v0), (6, v6), (7, x0)], s)
@[go_sem] theorem t44_6 : rc D b c44_6 ρ s = R44_6 b s (get ρ 0) (get ρ 6) (get ρ 7) := zr (by kernel_rfl)
@[go_sem] def R45_0 (_base : Nat) (s : St) (v0 v1 v2 v3 : V) : OR :=
 some (.normal, [(0, v0), (1, v1), (2, v2), (3, v3)], s)
@[go_sem] theorem t45_0 : rc D b c45_0 ρ s = R45_0 b s (get ρ 0) (get ρ 1) (get ρ 2) (get ρ 3) := zr (by kernel_rfl)
@[go_sem] def R45_1 (_base : Nat) (s : St) (v0 v1 v2 v3 : V) : OR :=
 obind (rf D f_steadfastref04_Frames_State [v0, v1] s) fun x0 =>
 some (.normal, [(0, v0), (1, v1), (2, v2), (3, v3), (9, x0.1)], x0.2)
@[go_sem] theorem t45_1 : rc D b c45_1 ρ s = R45_1 b s (get ρ 0) (get ρ 1) (get ρ 2) (get ρ 3) := zr (by kernel_rfl)
@[go_sem] def R45_2 (_base : Nat) (s : St) (v0 v1 v2 v3 v9 : V) : OR :=
 obind (vbin .lss v9 (.int .i64 0)) fun x0 =>
 some (.normal, [(0, v0), (1, v1), (2, v2), (3, v3), (9, v9), (14, x0)], s)
@[go_sem] theorem t45_2 : rc D b c45_2 ρ s = R45_2 b s (get ρ 0) (get ρ 1) (get ρ 2) (get ρ 3) (get ρ 9) := zr (by kernel_rfl)
@[go_sem] def R45_3 (_base : Nat) (s : St) : OR :=
 some (.normal, [(8, (.int .i64 1))], s)
@[go_sem] theorem t45_3 : rc D b c45_3 ρ s = R45_3 b s := zr (by kernel_rfl)
@[go_sem] def R45_4 (_base : Nat) (s : St) (v0 v1 v2 v3 v9 : V) : OR :=
 obind (vbin .neq v9 v2) fun x0 =>
 some (.normal, [(0, v0), (1, v1), (3, v3), (17, x0)], s)
@[go_sem] theorem t45_4 : rc D b c45_4 ρ s = R45_4 b s (get ρ 0) (get ρ 1) (get ρ 2) (get ρ 3) (get ρ 9) := zr (by kernel_rfl)
@[go_sem] def R45_5 (_base : Nat) (s : St) : OR :=
 some (.normal, [(8, (.int .i64 3))], s)
@[go_sem] theorem t45_5 : rc D b c45_5 ρ s = R45_5 b s := zr (by kernel_rfl)
@[go_sem] def R45_6 (base : Nat) (s : St) (v0 v1 v3 : V) : OR :=
 obind (nilv v0) fun x0 =>
 obind (fadv 21 1 1 x0) fun x1 =>
 obind (ldv s 1 x1) fun x2 =>
 obind (nilv v0) fun x3 =>
 obind (fadv 21 0 10 x3) fun x4 =>
 obind (ldv s 10 x4) fun x5 =>
 obind (vbin .sub v1 x5) fun x6 =>
 obind (sadv 10 x2 x6) fun x7 =>
 obind (stv base s 10 v3 x7) fun s8 =>
 some (.normal, [], s8)
@[go_sem] theorem t45_6 : rc D b c45_6 ρ s = R45_6 b s (get ρ 0) (get ρ 1) (get ρ 3) := zd (by kernel_rfl)
@[go_sem] def R45_7 (_base : Nat) (s : St) : OR :=
 some (.normal, [(8, (.int .i64 0))], s)
@[go_sem] theorem t45_7 : rc D b c45_7 ρ s = R45_7 b s := zr (by kernel_rfl)
@[go_sem] def R46_0 (_base : Nat) (s : St) (v0 v1 v2 : V) : OR :=
 some (.normal, [(0, v0), (1, v1), (2, v2)], s)
@[go_sem] theorem t46_0 : rc D b c46_0 ρ s = R46_0 b s (get ρ 0) (get ρ 1) (get ρ 2) := zr (by kernel_rfl)
@[go_sem] def R46_1 (_base : Nat) (s : St) (v0 v1 v2 : V) : OR :=
 obind (vbin .geq v0 v1) fun x0 =>
 oguard x0 true (
   obind (vbin .leq v0 v2) fun x1 =>
   some (.normal, [(6, x1)], s)) (
   some (.normal, [(6, (.bool false))], s)) (
   none)
@[go_sem] theorem t46_1 : rc D b c46_1 ρ s = R46_1 b s (get ρ 0) (get ρ 1) (get ρ 2) := zr (by kernel_rfl)
@[go_sem] def R47_0 (_base : Nat) (s : St) (v0 v1 v2 : V) : OR :=
 some (.normal, [(0, v0), (1, v1), (2, v2)], s)
@[go_sem] theorem t47_0 : rc D b c47_0 ρ s = R47_0 b s (get ρ 0) (get ρ 1) (get ρ 2) := zr (by kernel_rfl)
@[go_sem] def R47_1 (_base : Nat) (s : St) (v0 v1 v2 : V) : OR :=
 some (.normal, [(0, v0), (1, v1), (2, v2), (7, (.int .u64 0))], s)
@[go_sem] theorem t47_1 : rc D b c47_1 ρ s = R47_1 b s (get ρ 0) (get ρ 1) (get ρ 2) := zr (by kernel_rfl)
@[go_sem] def R47_2 (_base : Nat) (s : St) (v0 v1 v2 v7 : V) : OR :=
 obind (rf D f_steadfastref01_is [v1, v2] s) fun x0 =>
 obind (vun .not x0.1) fun x1 =>
 some (.normal, [(0, v0), (1, v1), (2, v2), (7, v7), (12, x1)], x0.2)
@[go_sem] theorem t47_2 : rc D b c47_2 ρ s = R47_2 b s (get ρ 0) (get ρ 1) (get ρ 2) (get ρ 7) := zr (by kernel_rfl)
@[go_sem] def R47_3 (_base : Nat) (s : St) : OR :=
 some (.normal, [(6, (.int .u64 0))], s)
@[go_sem] theorem t47_3 : rc D b c47_3 ρ s = R47_3 b s := zr (by kernel_rfl)
@[go_sem] def R47_4 (_base : Nat) (s : St) (v0 v1 v2 v7 : V) : OR :=
 some (.normal, [(0, v0), (1, v1), (2, v2), (7, v7), (8, (.int .i64 0))], s)
@[go_sem] theorem t47_4 : rc D b c47_4 ρ s = R47_4 b s (get ρ 0) (get ρ 1) (get ρ 2) (get ρ 7) := zr (by kernel_rfl)
@[go_sem] def R47_5 (_base : Nat) (s : St) (v0 v1 v2 v7 v8 : V) : OR :=
 obind (vbin .lss v8 v2) fun x0 =>
 some (.normal, [(0, v0), (1, v1), (2, v2), (7, v7), (8, v8), (15, x0)], s)
@[go_sem] theorem t47_5 : rc D b c47_5 ρ s = R47_5 b s (get ρ 0) (get ρ 1) (get ρ 2) (get ρ 7) (get ρ 8) := zr (by kernel_rfl)
@[go_sem] def R47_6 (_base : Nat) (s : St) (v0 v1 v2 v7 v8 : V) : OR :=
 obind (vbin .add v1 v8) fun x0 =>
 obind (rf D f_steadfastref01_bit [v0, x0] s) fun x1 =>
 obind (vbin .shl x1.1 v8) fun x2 =>
 obind (vbin .or v7 x2) fun x3 =>
 some (.normal, [(0, v0), (1, v1), (2, v2), (7, x3), (8, v8)], x1.2)
@[go_sem] theorem t47_6 : rc D b c47_6 ρ s = R47_6 b s (get ρ 0) (get ρ 1) (get ρ 2) (get ρ 7) (get ρ 8) := zr (by kernel_rfl)
@[go_sem] def R47_7 (_base : Nat) (s : St) (v0 v1 v2 v7 v8 : V) : OR :=
 obind (vbin .add v8 (.int .i64 1)) fun x0 =>
 some (.normal, [(0, v0), (1, v1), (2, v2), (7, v7), (8, x0)], s)
@[go_sem] theorem t47_7 : rc D b c47_7 ρ s = R47_7 b s (get ρ 0) (get ρ 1) (get ρ 2) (get ρ 7) (get ρ 8) := zr (by kernel_rfl)
@[go_sem] def R47_8 (_base : Nat) (s : St) (v7 : V) : OR :=
 some (.normal, [(6, v7)], s)
@[go_sem] theorem t47_8 : rc D b c47_8 ρ s = R47_8 b s (get ρ 7) := zr (by kernel_rfl)
@[go_sem] def R48_0 (_base : Nat) (s : St) (v0 : V) : OR :=
 some (.normal, [(0, v0)], s)
@[go_sem] theorem t48_0 : rc D b c48_0 ρ s = R48_0 b s (get ρ 0) := zr (by kernel_rfl)
@[go_sem] def R48_1 (_base : Nat) (s : St) (v0 : V) : OR :=
 obind (vbin .eql v0 (.int .u64 0)) fun x0 =>
 some (.normal, [(0, v0), (4, x0)], s)
@[go_sem] theorem t48_1 : rc D b c48_1 ρ s = R48_1 b s (get ρ 0) := zr (by kernel_rfl)
@[go_sem] def R48_2 (_base : Nat) (s : St) : OR :=
 some (.normal, [(2, (.int .i64 64))], s)
@[go_sem] theorem t48_2 : rc D b c48_2 ρ s = R48_2 b s := zr (by kernel_rfl)
@[go_sem] def R48_3 (_base : Nat) (s : St) (v0 : V) : OR :=
 obind (vun .neg v0) fun x0 =>
 obind (vbin .and v0 x0) fun x1 =>
 obind (vbin .mul x1 (.int .u64 285870213051353865)) fun x2 =>
 obind (vbin .shr x2 (.int .u64 58)) fun x3 =>
 obind (iadv 108 64 12 glob_0 x3) fun x4 =>
 obind (ldv s 12 x4) fun x5 =>
 obind (convv .i64 x5) fun x6 =>
 some (.normal, [(2, x6)], s)
@[go_sem] theorem t48_3 : rc D b c48_3 ρ s = R48_3 b s (get ρ 0) := zr (by kernel_rfl)
@[go_sem] def R49_0 (_base : Nat) (s : St) (v0 v1 : V) : OR :=
 some (.normal, [(0, v0), (1, v1)], s)
@[go_sem] theorem t49_0 : rc D b c49_0 ρ s = R49_0 b s (get ρ 0) (get ρ 1) := zr (by kernel_rfl)
@[go_sem] def R49_1 (_base : Nat) (s : St) (v0 v1 : V) : OR :=
 obind (vbin .lss v1 (.int .i64 0)) fun x0 =>
 oguard x0 false (
   obind (nilv v0) fun x1 =>
   obind (fadv 59 0 1 x1) fun x2 =>
   obind (ldv s 1 x2) fun x3 =>
   obind (V.slen false x3) fun x4 =>
   obind (vbin .geq v1 (.int .i64 x4)) fun x5 =>
   some (.normal, [(0, v0), (1, v1), (15, x5)], s)) (
   some (.normal, [(0, v0), (1, v1), (15, (.bool true))], s)) (
   none)
@[go_sem] theorem t49_1 : rc D b c49_1 ρ s = R49_1 b s (get ρ 0) (get ρ 1) := zr (by kernel_rfl)
@[go_sem] def R49_2 (_base : Nat) (s : St) : OR :=
 some (.normal, [(4, .nilp)], s)
@[go_sem] theorem t49_2 : rc D b c49_2 ρ s = R49_2 b s := zr (by kernel_rfl)
@[go_sem] def R49_3 (_base : Nat) (s : St) (v0 v1 : V) : OR :=
 obind (nilv v0) fun x0 =>
 obind (fadv 59 0 1 x0) fun x1 =>
 obind (ldv s 1 x1) fun x2 =>
 obind (sadv 55 x2 v1) fun x3 =>
 some (.normal, [(4, x3)], s)
@[go_sem] theorem t49_3 : rc D b c49_3 ρ s = R49_3 b s (get ρ 0) (get ρ 1) := zr (by kernel_rfl)
@[go_sem] def R50_0 (_base : Nat) (s : St) (v0 : V) : OR :=
 some (.normal, [(0, v0)], s)
@[go_sem] theorem t50_0 : rc D b c50_0 ρ s = R50_0 b s (get ρ 0) := zr (by kernel_rfl)
@[go_sem] def R50_1 (_base : Nat) (s : St) (v0 : V) : OR :=
 obind (nilv v0) fun x0 =>
 obind (fadv 59 2 0 x0) fun x1 =>
 obind (ldv s 0 x1) fun x2 =>
 oguard x2 true (
   obind (nilv v0) fun x3 =>
   obind (fadv 59 3 10 x3) fun x4 =>
   obind (ldv s 10 x4) fun x5 =>
   obind (vbin .eql x5 (.int .i64 0)) fun x6 =>
   some (.normal, [(0, v0), (13, x6)], s)) (
   some (.normal, [(0, v0), (13, (.bool false))], s)) (
   none)
@[go_sem] theorem t50_1 : rc D b c50_1 ρ s = R50_1 b s (get ρ 0) := zr (by kernel_rfl)
@[go_sem] def R50_2 (base : Nat) (s : St) (v0 : V) : OR :=
 obind (nilv v0) fun x0 =>
 obind (fadv 59 1 0 x0) fun x1 =>
 obind (stv base s 0 (.bool true) x1) fun s2 =>
 some (.normal, [(0, v0)], s2)
@[go_sem] theorem t50_2 : rc D b c50_2 ρ s = R50_2 b s (get ρ 0) := zr (by kernel_rfl)
@[go_sem] def R50_3 (_base : Nat) (s : St) (v0 : V) : OR :=
 obind (nilv v0) fun x0 =>
 obind (fadv 59 1 0 x0) fun x1 =>
 obind (ldv s 0 x1) fun x2 =>
 some (.normal, [(0, v0), (20, x2)], s)
@[go_sem] theorem t50_3 : rc D b c50_3 ρ s = R50_3 b s (get ρ 0) := zr (by kernel_rfl)
@[go_sem] def R50_4 (_base : Nat) (s : St) : OR :=
 some (.normal, [(2, (.int .i64 4))], s)
@[go_sem] theorem t50_4 : rc D b c50_4 ρ s = R50_4 b s := zr (by kernel_rfl)
@[go_sem] def R50_5 (_base : Nat) (s : St) (v0 : V) : OR :=
 obind (nilv v0) fun x0 =>
 obind (fadv 59 2 0 x0) fun x1 =>
 obind (ldv s 0 x1) fun x2 =>
 some (.normal, [(0, v0), (24, x2)], s)
@[go_sem] theorem t50_5 : rc D b c50_5 ρ s = R50_5 b s (get ρ 0) := zr (by kernel_rfl)
@[go_sem] def R50_6 (base : Nat) (s : St) (v0 : V) : OR :=
 obind (nilv v0) fun x0 =>
 obind (fadv 59 3 10 x0) fun x1 =>
 obind (ldv s 10 x1) fun x2 =>
 obind (vbin .sub x2 (.int .i64 1)) fun x3 =>
 obind (nilv v0) fun x4 =>
 obind (fadv 59 3 10 x4) fun x5 =>
 obind (stv base s 10 x3 x5) fun s6 =>
 some (.normal, [(0, v0)], s6)
@[go_sem] theorem t50_6 : rc D b c50_6 ρ s = R50_6 b s (get ρ 0) := zr (by kernel_rfl)
@[go_sem] def R50_7 (base : Nat) (s : St) (v0 : V) : OR :=
 obind (nilv v0) fun x0 =>
 obind (fadv 59 4 10 x0) fun x1 =>
 obind (ldv s 10 x1) fun x2 =>
 obind (vbin .add x2 (.int .i64 1)) fun x3 =>
 obind (nilv v0) fun x4 =>
 obind (fadv 59 4 10 x4) fun x5 =>
 obind (stv base s 10 x3 x5) fun s6 =>
 some (.normal, [], s6)
@[go_sem] theorem t50_7 : rc D b c50_7 ρ s = R50_7 b s (get ρ 0) := zr (by kernel_rfl)
@[go_sem] def R50_8 (_base : Nat) (s : St) : OR :=
 some (.normal, [(2, (.int .i64 0))], s)
@[go_sem] theorem t50_8 : rc D b c50_8 ρ s = R50_8 b s := zr (by kernel_rfl)
@[go_sem] def R51_0 (_base : Nat) (s : St) (v0 v1 : V) : OR :=
 some (.normal, [(0, v0), (1, v1)], s)
@[go_sem] theorem t51_0 : rc D b c51_0 ρ s = R51_0 b s (get ρ 0) (get ρ 1) := zr (by kernel_rfl)
@[go_sem] def R51_1 (_base : Nat) (s : St) (v0 v1 : V) : OR :=
 obind (nilv v0) fun x0 =>
 obind (fadv 80 0 10 x0) fun x1 =>
 obind (ldv s 10 x1) fun x2 =>
 obind (vbin .lss v1 x2) fun x3 =>
 some (.normal, [(0, v0), (1, v1), (5, x3)], s)
@[go_sem] theorem t51_1 : rc D b c51_1 ρ s = R51_1 b s (get ρ 0) (get ρ 1) := zr (by kernel_rfl)
@[go_sem] def R51_2 (_base : Nat) (s : St) (v0 v1 : V) : OR :=
 obind (nilv v0) fun x0 =>
 obind (fadv 80 1 10 x0) fun x1 =>
 obind (ldv s 10 x1) fun x2 =>
 obind (vbin .geq v1 x2) fun x3 =>
 some (.normal, [(0, v0), (1, v1), (5, x3)], s)
@[go_sem] theorem t51_2 : rc D b c51_2 ρ s = R51_2 b s (get ρ 0) (get ρ 1) := zr (by kernel_rfl)
@[go_sem] def R51_3 (_base : Nat) (s : St) : OR :=
 some (.normal, [(4, (.int .i64 (-1)))], s)
@[go_sem] theorem t51_3 : rc D b c51_3 ρ s = R51_3 b s := zr (by kernel_rfl)
@[go_sem] def R51_4 (_base : Nat) (s : St) (v0 v1 : V) : OR :=
 obind (nilv v0) fun x0 =>
 obind (fadv 80 2 78 x0) fun x1 =>
 obind (rf D f_frames_set_has [x1, v1] s) fun x2 =>
 some (.normal, [(0, v0), (1, v1), (18, x2.1)], x2.2)
@[go_sem] theorem t51_4 : rc D b c51_4 ρ s = R51_4 b s (get ρ 0) (get ρ 1) := zr (by kernel_rfl)
@[go_sem] def R51_5 (_base : Nat) (s : St) : OR :=
 some (.normal, [(4, (.int .i64 0))], s)
@[go_sem] theorem t51_5 : rc D b c51_5 ρ s = R51_5 b s := zr (by kernel_rfl)
@[go_sem] def R51_6 (_base : Nat) (s : St) (v0 v1 : V) : OR :=
 obind (nilv v0) fun x0 =>
 obind (fadv 80 3 78 x0) fun x1 =>
 obind (rf D f_frames_set_has [x1, v1] s) fun x2 =>
 some (.normal, [(24, x2.1)], x2.2)
@[go_sem] theorem t51_6 : rc D b c51_6 ρ s = R51_6 b s (get ρ 0) (get ρ 1) := zr (by kernel_rfl)
@[go_sem] def R51_7 (_base : Nat) (s : St) : OR :=
 some (.normal, [(4, (.int .i64 2))], s)
@[go_sem] theorem t51_7 : rc D b c51_7 ρ s = R51_7 b s := zr (by kernel_rfl)
@[go_sem] def R51_8 (_base : Nat) (s : St) : OR :=
 some (.normal, [(4, (.int .i64 1))], s)
@[go_sem] theorem t51_8 : rc D b c51_8 ρ s = R51_8 b s := zr (by kernel_rfl)
@[go_sem] def R52_0 (_base : Nat) (s : St) (v0 v1 : V) : OR :=
 some (.normal, [(0, v0), (1, v1)], s)
@[go_sem] theorem t52_0 : rc D b c52_0 ρ s = R52_0 b s (get ρ 0) (get ρ 1) := zr (by kernel_rfl)
@[go_sem] def R52_1 (_base : Nat) (s : St) (v0 v1 : V) : OR :=
 obind (nilv v0) fun x0 =>
 obind (fadv 21 0 10 x0) fun x1 =>
 obind (ldv s 10 x1) fun x2 =>
 obind (vbin .lss v1 x2) fun x3 =>
 oguard x3 false (
   obind (nilv v0) fun x4 =>
   obind (fadv 21 0 10 x4) fun x5 =>
   obind (ldv s 10 x5) fun x6 =>
   obind (vbin .sub v1 x6) fun x7 =>
   obind (nilv v0) fun x8 =>
   obind (fadv 21 1 1 x8) fun x9 =>
   obind (ldv s 1 x9) fun x10 =>
   obind (V.slen false x10) fun x11 =>
   obind (vbin .geq x7 (.int .i64 x11)) fun x12 =>
   some (.normal, [(0, v0), (1, v1), (24, x12)], s)) (
   some (.normal, [(0, v0), (1, v1), (24, (.bool true))], s)) (
   none)
@[go_sem] theorem t52_1 : rc D b c52_1 ρ s = R52_1 b s (get ρ 0) (get ρ 1) := zd (by kernel_rfl)
@[go_sem] def R52_2 (_base : Nat) (s : St) : OR :=
 some (.normal, [(4, (.int .i64 (-1)))], s)
@[go_sem] theorem t52_2 : rc D b c52_2 ρ s = R52_2 b s := zr (by kernel_rfl)
@[go_sem] def R52_3 (_base : Nat) (s : St) (v0 v1 : V) : OR :=
 obind (nilv v0) fun x0 =>
 obind (fadv 21 1 1 x0) fun x1 =>
 obind (ldv s 1 x1) fun x2 =>
 obind (nilv v0) fun x3 =>
 obind (fadv 21 0 10 x3) fun x4 =>
 obind (ldv s 10 x4) fun x5 =>
 obind (vbin .sub v1 x5) fun x6 =>
 obind (sadv 10 x2 x6) fun x7 =>
 obind (ldv s 10 x7) fun x8 =>
 some (.normal, [(4, x8)], s)
@[go_sem] theorem t52_3 : rc D b c52_3 ρ s = R52_3 b s (get ρ 0) (get ρ 1) := zd (by kernel_rfl)
@[go_sem] def R53_0 (_base : Nat) (s : St) (v0 v1 : V) : OR :=
 some (.normal, [(0, v0), (1, v1)], s)
@[go_sem] theorem t53_0 : rc D b c53_0 ρ s = R53_0 b s (get ρ 0) (get ρ 1) := zr (by kernel_rfl)
@[go_sem] def R53_1 (_base : Nat) (s : St) (v0 v1 : V) : OR :=
 obind (vbin .quo v1 (.int .i64 64)) fun x0 =>
 obind (nilv v0) fun x1 =>
 obind (iadv 78 16 18 x1 x0) fun x2 =>
 obind (ldv s 18 x2) fun x3 =>
 obind (vbin .rem v1 (.int .i64 64)) fun x4 =>
 obind (vbin .shr x3 x4) fun x5 =>
 obind (vbin .and x5 (.int .u64 1)) fun x6 =>
 obind (vbin .eql x6 (.int .u64 1)) fun x7 =>
 some (.normal, [(4, x7)], s)
@[go_sem] theorem t53_1 : rc D b c53_1 ρ s = R53_1 b s (get ρ 0) (get ρ 1) := zr (by kernel_rfl)

end
end Go.Proofs.YtpbpgbedkmbfkaaDoor
