/-
  YtnffmibpblibdaaDoorCode: the code of the functions that this seat's laws reach, in the form of Ab1 (printed by a program out of the translation; held against it in YtnffmibpblibdaaDoorChk).
-/
import Derived.Test.YtnffmibpblibdaaDoorAbG
import Derived.KernelRfl
set_option maxRecDepth 100000
namespace Go.Proofs.YtnffmibpblibdaaDoor
open Go.Ab
noncomputable section
variable {b : Nat} {ρ : Env} {s : St}
def glob_0 : V := .ptr (.hp 0) [] 108
@[go_sem] theorem glob_0_eq : glob_0 = .ptr (.hp 0) [] 108 := nd rfl
def tabl_0 : List Int := [0, 1, 56, 2, 57, 49, 28, 3, 61, 58, 42, 50, 38, 29, 17, 4, 62, 47, 59, 36, 45, 43, 51, 22, 53, 39, 33, 30, 24, 18, 12, 5, 63, 55, 48, 27, 60, 41, 37, 16, 46, 35, 44, 21, 52, 32, 23, 11, 54, 26, 40, 15, 34, 20, 31, 10, 25, 14, 19, 9, 13, 8, 7, 6]
def globV_0 : V := .agg 108 (tabl_0.map (.int .u8))
/-- The variables of the program that the laws read. -/
def G : List Blk := [.ro globV_0]
/-! The functions' numbers. -/
def f_steadfastlaw10_ObjectsFree : Nat := 8
def f_steadfastlaw10_shown : Nat := 9
def f_nvm_New : Nat := 10
def f_objects_Of : Nat := 12
def f_steadfastlaw10_table : Nat := 15
def f_steadfastlaw10_dir : Nat := 16
def f_steadfastlaw10_kind : Nat := 17
def f_objects_Store_Left : Nat := 18
def f_objects_Store_Set : Nat := 19
def f_objects_Store_Get : Nat := 20
def f_objects_Store_Table : Nat := 21
def f_objects_Store_Mark : Nat := 22
def f_objects_Store_Take : Nat := 23
def f_objects_Store_Make : Nat := 25
def f_objects_Store_End : Nat := 26
def f_nvm_Memory_Load : Nat := 27
def f_objects_Store_Base : Nat := 28
def f_objects_Store_Commit : Nat := 32
def f_objects_Store_Abort : Nat := 33
def f_objects_Store_Next : Nat := 34
def f_frames_New : Nat := 36
def f_nvm_Memory_Lines : Nat := 37
def f_frames_Frames_Take : Nat := 38
def f_objects_Store_share : Nat := 39
def f_frames_Frames_Left : Nat := 44
def f_objects_Store_is : Nat := 45
def f_objects_Store_own : Nat := 46
def f_nvm_Memory_Store : Nat := 47
def f_objects_Store_lay : Nat := 48
def f_frames_Frames_Alloc : Nat := 49
def f_frames_Frames_Free : Nat := 50
def f_entry_End : Nat := 51
def f_nvm_Memory_at : Nat := 52
def f_objects_Store_unmark : Nat := 56
def f_entry_Open : Nat := 57
def f_frames_set_turn : Nat := 58
def f_frames_Frames_in : Nat := 59
def f_objects_lines_add : Nat := 60
def f_math_bits_OnesCount64 : Nat := 62
def f_nvm_Memory_step : Nat := 63
def f_math_bits_TrailingZeros64 : Nat := 64
def f_frames_Frames_State : Nat := 66
def f_frames_Frames_Later : Nat := 67
def f_frames_Frames_Settle : Nat := 68
def f_frames_set_has : Nat := 70
def c8_0 : C := .reg (some [0, 1]) [zq 4 (.mv (.k (.bool false)))]
def c8_1 : C := .reg (some [0, 1, 5]) [zq 25 (.call (zf f_steadfastlaw10_shown) []),
zq 5 (.mv 25)]
def c8_2 : C := .reg (some [0, 1, 5, 6]) [zq 27 (.call (zf f_nvm_New) [(zi 100)]),
zq 26 (.mv 27),
zq 28 (.ext 26 0),
zq 29 (.ext 26 1),
zq 6 (.mv 28),
zq 7 (.mv 29)]
def c8_3 : C := .reg (some [0, 1, 6, 35]) [zq 30 (.mv 5),
zq 31 (.un .not 30),
zq 32 (.mv 31),
zg 33 32 false (.mv 6),
zg 34 32 false (.eq false 1 33 (.k .nilp)),
zq 35 (.pick 32 (.k (.bool true)) 34)]
def c8_4 : C := .reg (some [4]) [zq 4 (.mv (.k (.bool false)))]
def c8_5 : C := .reg (some [0, 1, 8]) [zq 37 (.mv 6),
zq 38 (.call (zf f_steadfastlaw10_table) [(zi 12)]),
zq 39 (.call (zf f_steadfastlaw10_dir) []),
zq 40 (.call (zf f_objects_Of) [37, (zi 10), 38, 39]),
zq 36 (.mv 40),
zq 41 (.ext 36 0),
zq 42 (.ext 36 1),
zq 8 (.mv 41),
zq 9 (.mv 42)]
def c8_6 : C := .reg (some [0, 1, 8, 44]) [zq 43 (.mv 8),
zq 44 (.eq false 1 43 (.k .nilp))]
def c8_7 : C := .reg (some [4]) [zq 4 (.mv (.k (.bool false)))]
def c8_8 : C := .reg (some [0, 1, 8, 10]) [zq 10 (.mv (zi 0))]
def c8_9 : C := .reg (some [0, 1, 8, 10, 52]) [zq 45 (.mv 10),
zq 46 (.mv 0),
zq 47 (.len false 46),
zq 48 (.bin .lss 45 47),
zq 49 (.mv 48),
zg 50 49 true (.mv 10),
zg 51 49 true (.bin .lss 50 (zi 60)),
zq 52 (.pick 49 51 (.k (.bool false)))]
def c8_10 : C := .reg (some [0, 1, 8, 10, 11]) [zq 55 (.mv 0),
zq 56 (.mv 10),
zq 57 (.sad 54 55 56),
zq 58 (.ld 54 57),
zq 11 (.alloc false (.agg 54 [(.int .i64 0), (.int .i64 0), (.int .i64 0), (.int .u64 0)])),
zw (.st 54 11 58)]
def c8_11 : C := .reg (some [0, 1, 8, 10, 11, 60]) [zq 59 (.mv 10),
zq 60 (.bin .eql 59 (zi 20))]
def c8_12 : C := .reg (some [0, 1, 8, 10, 11]) [zq 61 (.mv 8),
zq 62 (.call (zf f_objects_Store_Mark) [61])]
def c8_13 : C := .reg (some [0, 1, 8, 10, 11, 65]) [zq 63 (.fad 54 0 10 11),
zq 64 (.ld 10 63),
zq 65 (.call (zf f_steadfastlaw10_kind) [64, (zi 3)])]
def c8_14 : C := .reg (some [0, 1, 8, 10, 11, 65, 66]) [zq 67 (.bin .eql 65 (zi 0)),
zq 66 (.mv 67)]
def c8_15 : C := .regd (some [0, 1, 8, 10]) [zq 68 (.mv 8),
zq 69 (.fad 54 1 10 11),
zq 70 (.ld 10 69),
zq 71 (.pcall (zf f_steadfastlaw10_kind) [70, (zi 20)]),
zq 72 (.fad 54 2 10 11),
zq 73 (.ld 10 72),
zq 74 (.pcall (zf f_steadfastlaw10_kind) [73, (zi 8)]),
zq 75 (.fad 54 3 18 11),
zq 76 (.ld 18 75),
zq 77 (.call (zf f_objects_Store_Set) [68, 71, 74, 76])]
def c8_16 : C := .reg (some [0, 1, 8, 10, 11, 65, 78]) [zq 79 (.bin .eql 65 (zi 1)),
zq 78 (.mv 79)]
def c8_17 : C := .reg (some [0, 1, 8, 10]) [zq 80 (.mv 8),
zq 81 (.fad 54 2 10 11),
zq 82 (.ld 10 81),
zq 83 (.call (zf f_steadfastlaw10_kind) [82, (zi 2)]),
zq 84 (.bin .add (zi 1) 83),
zq 85 (.call (zf f_objects_Store_Make) [80, 84])]
def c8_18 : C := .reg (some [0, 1, 8, 10, 11, 86]) [zq 87 (.bin .eql 65 (zi 2)),
zq 86 (.mv 87)]
def c8_19 : C := .reg (some [0, 1, 8, 10]) [zq 88 (.mv 8),
zq 89 (.fad 54 1 10 11),
zq 90 (.ld 10 89),
zq 91 (.call (zf f_steadfastlaw10_kind) [90, (zi 20)]),
zq 92 (.call (zf f_objects_Store_End) [88, 91])]
def c8_20 : C := .reg (some [0, 1, 8, 10]) [zq 53 (.mv 10),
zq 54 (.bin .add 53 (zi 1)),
zq 10 (.mv 54)]
def c8_21 : C := .reg (some [1, 8]) [zq 93 (.mv 8),
zq 94 (.call (zf f_objects_Store_Mark) [93])]
def c8_22 : C := .reg (some [1, 8, 12]) [zq 95 (.call (zf f_steadfastlaw10_dir) []),
zq 12 (.alloc false (.agg 50 (List.replicate 8 (.int .i64 0)))),
zw (.st 50 12 95)]
def c8_23 : C := .reg (some [1, 8, 12]) [zq 13 (.mv (zi 0))]
def c8_24 : C := .reg (some [8, 12, 96]) [zq 96 (.mv 1)]
def c8_25 : C := .reg (some [8, 12, 14]) [zq 14 (.mv (zi 0))]
def c8_26 : C := .reg (some [8, 12, 14, 98]) [zq 97 (.mv 14),
zq 98 (.bin .lss 97 (zi 8))]
def c8_27 : C := .reg (some [8, 12, 14, 15, 16]) [zq 102 (.mv 8),
zq 103 (.call (zf f_objects_Store_Take) [102]),
zq 101 (.mv 103),
zq 104 (.ext 101 0),
zq 105 (.ext 101 1),
zq 15 (.mv 104),
zq 16 (.mv 105)]
def c8_28 : C := .reg (some [8, 12, 14, 15, 107]) [zq 106 (.mv 16),
zq 107 (.bin .neq 106 (zi 0))]
def c8_29 : C := .reg (some [4]) [zq 4 (.mv (.k (.bool true)))]
def c8_30 : C := .reg (some [8, 12, 14]) [zq 108 (.mv 14),
zq 109 (.mv 15),
zq 110 (.iad 50 8 10 12 108),
zw (.st 10 110 109)]
def c8_31 : C := .reg (some [8, 12, 14]) [zq 99 (.mv 14),
zq 100 (.bin .add 99 (zi 1)),
zq 14 (.mv 100)]
def c8_32 : C := .reg (some [8, 12, 13]) [zq 111 (.mv 8),
zq 112 (.ld 50 12),
zq 113 (.call (zf f_objects_Store_Commit) [111, 112]),
zq 13 (.mv 113)]
def c8_33 : C := .reg (some [8, 12]) [zq 114 (.mv 8),
zq 115 (.call (zf f_objects_Store_Take) [114])]
def c8_34 : C := .reg (some [8, 12, 13]) [zq 116 (.mv 8),
zq 117 (.call (zf f_objects_Store_Abort) [116]),
zq 13 (.mv 117)]
def c8_35 : C := .reg (some [8, 12, 13, 17, 18]) [zq 119 (.mv 8),
zq 120 (.call (zf f_objects_Store_Base) [119]),
zq 118 (.mv 120),
zq 121 (.ext 118 0),
zq 122 (.ext 118 1),
zq 17 (.alloc false (.agg 48 (List.replicate 49 (.agg 42 [(.int .i64 0), (.int .i64 0), (.int .i64 0)])))),
zq 18 (.alloc false (.agg 50 (List.replicate 8 (.int .i64 0)))),
zw (.st 48 17 121),
zw (.st 50 18 122)]
def c8_36 : C := .reg (some [8, 12, 13, 17, 18, 19]) [zq 123 (.mv 8),
zq 124 (.call (zf f_objects_Store_Table) [123]),
zq 19 (.alloc false (.agg 48 (List.replicate 49 (.agg 42 [(.int .i64 0), (.int .i64 0), (.int .i64 0)])))),
zw (.st 48 19 124)]
def c8_37 : C := .reg (some [8, 12, 13, 17, 18, 19, 20]) [zq 125 (.mksl false 20 0 (.bool false) (zi 100) (zi 100)),
zq 20 (.mv 125)]
def c8_38 : C := .reg (some [8, 12, 13, 17, 18, 19, 20, 21]) [zq 21 (.mv (zi 0))]
def c8_39 : C := .reg (some [8, 12, 13, 17, 18, 19, 20, 21, 127]) [zq 126 (.mv 21),
zq 127 (.bin .lss 126 (zi 49))]
def c8_40 : C := .reg (some [8, 12, 13, 17, 18, 19, 20, 21, 134]) [zq 130 (.mv 21),
zq 131 (.iad 48 49 42 17 130),
zq 132 (.fad 42 0 10 131),
zq 133 (.ld 10 132),
zq 134 (.bin .neq 133 (zi 0))]
def c8_41 : C := .reg (some [8, 12, 13, 17, 18, 19, 20, 21]) [zq 135 (.mv 20),
zq 136 (.mv 21),
zq 137 (.iad 48 49 42 17 136),
zq 138 (.fad 42 2 10 137),
zq 139 (.ld 10 138),
zq 140 (.sad 0 135 139),
zw (.st 0 140 (.k (.bool true)))]
def c8_42 : C := .reg (some [8, 12, 13, 17, 18, 19, 20, 21, 145]) [zq 141 (.mv 21),
zq 142 (.iad 48 49 42 19 141),
zq 143 (.fad 42 0 10 142),
zq 144 (.ld 10 143),
zq 145 (.bin .neq 144 (zi 0))]
def c8_43 : C := .reg (some [8, 12, 13, 17, 18, 19, 20, 21]) [zq 146 (.mv 20),
zq 147 (.mv 21),
zq 148 (.iad 48 49 42 19 147),
zq 149 (.fad 42 2 10 148),
zq 150 (.ld 10 149),
zq 151 (.sad 0 146 150),
zw (.st 0 151 (.k (.bool true)))]
def c8_44 : C := .reg (some [8, 12, 13, 17, 18, 19, 20, 21]) [zq 128 (.mv 21),
zq 129 (.bin .add 128 (zi 1)),
zq 21 (.mv 129)]
def c8_45 : C := .reg (some [8, 12, 13, 18, 20, 22]) [zq 22 (.mv (zi 0))]
def c8_46 : C := .reg (some [8, 12, 13, 18, 20, 22, 153]) [zq 152 (.mv 22),
zq 153 (.bin .lss 152 (zi 8))]
def c8_47 : C := .reg (some [8, 12, 13, 18, 20, 22]) [zq 156 (.mv 20),
zq 157 (.mv 22),
zq 158 (.iad 50 8 10 18 157),
zq 159 (.ld 10 158),
zq 160 (.sad 0 156 159),
zw (.st 0 160 (.k (.bool true)))]
def c8_48 : C := .reg (some [8, 12, 13, 18, 20, 22]) [zq 154 (.mv 22),
zq 155 (.bin .add 154 (zi 1)),
zq 22 (.mv 155)]
def c8_49 : C := .reg (some [8, 12, 13, 18, 20, 23]) [zq 23 (.mv (zi 0))]
def c8_50 : C := .reg (some [8, 12, 13, 18, 20, 23, 24]) [zq 24 (.mv (zi 10))]
def c8_51 : C := .reg (some [8, 12, 13, 18, 20, 23, 24, 162]) [zq 161 (.mv 24),
zq 162 (.bin .lss 161 (zi 100))]
def c8_52 : C := .reg (some [8, 12, 13, 18, 20, 23, 24, 169]) [zq 165 (.mv 20),
zq 166 (.mv 24),
zq 167 (.sad 0 165 166),
zq 168 (.ld 0 167),
zq 169 (.un .not 168)]
def c8_53 : C := .reg (some [8, 12, 13, 18, 20, 23, 24]) [zq 170 (.mv 23),
zq 171 (.bin .add 170 (zi 1)),
zq 23 (.mv 171)]
def c8_54 : C := .reg (some [8, 12, 13, 18, 20, 23, 24]) [zq 163 (.mv 24),
zq 164 (.bin .add 163 (zi 1)),
zq 24 (.mv 164)]
def c8_55 : C := .reg (some [4]) [zq 172 (.mv 13),
zq 173 (.bin .eql 172 (zi 0)),
zq 174 (.mv 173),
zg 175 174 true (.ld 50 18),
zg 176 174 true (.ld 50 12),
zg 177 174 true (.eq false 50 175 176),
zq 178 (.pick 174 177 (.k (.bool false))),
zq 179 (.mv 178),
zg 180 179 true (.mv 8),
zg 181 179 true (.call (zf f_objects_Store_Left) [180]),
zg 182 179 true (.mv 23),
zg 183 179 true (.bin .eql 181 182),
zq 184 (.pick 179 183 (.k (.bool false))),
zq 4 (.mv 184)]
def b_steadfastlaw10_ObjectsFree_0 : C :=
    .seq (.seq (c8_9) (
    .cond (.t 52) (
      .skip) (
      .exit 0))) (
    .seq (.block 1 (
      .seq (c8_10) (
      .seq (.seq (c8_11) (
      .cond (.t 60) (
        c8_12) (
        .skip))) (
      .seq (c8_13) (
      .block 2 (
        .seq (c8_14) (
        .cond (.t 66) (
          c8_15) (
          .seq (c8_16) (
          .cond (.t 78) (
            c8_17) (
            .seq (c8_18) (
            .cond (.t 86) (
              c8_19) (
              .skip)))))))))))) (
    c8_20))
def b_steadfastlaw10_ObjectsFree_1 : C :=
    .seq (.seq (c8_26) (
    .cond (.t 98) (
      .skip) (
      .exit 3))) (
    .seq (.block 4 (
      .seq (c8_27) (
      .seq (.seq (c8_28) (
      .cond (.t 107) (
        .seq (c8_29) (
        .ret)) (
        .skip))) (
      c8_30)))) (
    c8_31))
def b_steadfastlaw10_ObjectsFree_2 : C :=
    .seq (.seq (c8_39) (
    .cond (.t 127) (
      .skip) (
      .exit 5))) (
    .seq (.block 6 (
      .seq (.seq (c8_40) (
      .cond (.t 134) (
        c8_41) (
        .skip))) (
      .seq (c8_42) (
      .cond (.t 145) (
        c8_43) (
        .skip))))) (
    c8_44))
def b_steadfastlaw10_ObjectsFree_3 : C :=
    .seq (.seq (c8_46) (
    .cond (.t 153) (
      .skip) (
      .exit 7))) (
    .seq (.block 8 (
      c8_47)) (
    c8_48))
def b_steadfastlaw10_ObjectsFree_4 : C :=
    .seq (.seq (c8_51) (
    .cond (.t 162) (
      .skip) (
      .exit 9))) (
    .seq (.block 10 (
      .seq (c8_52) (
      .cond (.t 169) (
        c8_53) (
        .skip)))) (
    c8_54))
/-- steadfast/steadfastlaw10.ObjectsFree -/
@[go_sem] def fc_steadfastlaw10_ObjectsFree : Fc := ⟨2,
  .seq (c8_0) (
  .seq (c8_1) (
  .seq (c8_2) (
  .seq (.seq (c8_3) (
  .cond (.t 35) (
    .seq (c8_4) (
    .ret)) (
    .skip))) (
  .seq (c8_5) (
  .seq (.seq (c8_6) (
  .cond (.t 44) (
    .seq (c8_7) (
    .ret)) (
    .skip))) (
  .seq (.seq (c8_8) (
  .block 0 (
    .loop [0, 1, 8, 10] b_steadfastlaw10_ObjectsFree_0))) (
  .seq (c8_21) (
  .seq (c8_22) (
  .seq (c8_23) (
  .seq (.seq (c8_24) (
  .cond (.t 96) (
    .seq (.seq (c8_25) (
    .block 3 (
      .loop [8, 12, 14] b_steadfastlaw10_ObjectsFree_1))) (
    c8_32)) (
    .seq (c8_33) (
    c8_34)))) (
  .seq (c8_35) (
  .seq (c8_36) (
  .seq (c8_37) (
  .seq (.seq (c8_38) (
  .block 5 (
    .loop [8, 12, 13, 17, 18, 19, 20, 21] b_steadfastlaw10_ObjectsFree_2))) (
  .seq (.seq (c8_45) (
  .block 7 (
    .loop [8, 12, 13, 18, 20, 22] b_steadfastlaw10_ObjectsFree_3))) (
  .seq (c8_49) (
  .seq (.seq (c8_50) (
  .block 9 (
    .loop [8, 12, 13, 18, 20, 23, 24] b_steadfastlaw10_ObjectsFree_4))) (
  .seq (c8_55) (
  .ret))))))))))))))))))),
  [.t 4]⟩
def c9_0 : C := .reg (some []) [zq 0 (.mv (.k (.bool false)))]
def c9_1 : C := .reg (some [1]) [zq 18 (.call (zf f_nvm_New) [(zi 80)]),
zq 17 (.mv 18),
zq 19 (.ext 17 0),
zq 20 (.ext 17 1),
zq 1 (.mv 19),
zq 2 (.mv 20)]
def c9_2 : C := .reg (some [1, 22]) [zq 21 (.mv 1),
zq 22 (.eq false 1 21 (.k .nilp))]
def c9_3 : C := .reg (some [0]) [zq 0 (.mv (.k (.bool false)))]
def c9_4 : C := .reg (some [1, 3]) [zq 23 (.bld (.agg 48 (List.replicate 49 (.agg 42 [(.int .i64 0), (.int .i64 0), (.int .i64 0)]))) []),
zq 3 (.alloc false (.agg 48 (List.replicate 49 (.agg 42 [(.int .i64 0), (.int .i64 0), (.int .i64 0)])))),
zw (.st 48 3 23)]
def c9_5 : C := .reg (some [1, 3]) [zq 24 (.bld (.agg 42 [(.int .i64 0), (.int .i64 0), (.int .i64 0)]) [(0, (zi 1)), (2, (zi 20))]),
zq 25 (.iad 48 49 42 3 (zi 0)),
zw (.st 42 25 24)]
def c9_6 : C := .regd (some [4, 5]) [zq 27 (.mv 1),
zq 28 (.ld 48 3),
zq 29 (.pcall (zf f_steadfastlaw10_dir) []),
zq 30 (.call (zf f_objects_Of) [27, (zi 10), 28, 29]),
zq 26 (.mv 30),
zq 31 (.ext 26 0),
zq 32 (.ext 26 1),
zq 4 (.mv 31),
zq 5 (.mv 32)]
def c9_7 : C := .reg (some [4, 38]) [zq 33 (.mv 4),
zq 34 (.eq false 1 33 (.k .nilp)),
zq 35 (.mv 34),
zg 36 35 false (.mv 5),
zg 37 35 false (.bin .neq 36 (zi 0)),
zq 38 (.pick 35 (.k (.bool true)) 37)]
def c9_8 : C := .reg (some [0]) [zq 0 (.mv (.k (.bool false)))]
def c9_9 : C := .reg (some [4, 6]) [zq 39 (.mv 4),
zq 40 (.call (zf f_objects_Store_Set) [39, (zi 0), (zi 3), (.k (.int .u64 7))]),
zq 6 (.mv 40)]
def c9_10 : C := .reg (some [4, 6, 7]) [zq 41 (.mv 4),
zq 42 (.call (zf f_objects_Store_Table) [41]),
zq 7 (.alloc false (.agg 48 (List.replicate 49 (.agg 42 [(.int .i64 0), (.int .i64 0), (.int .i64 0)])))),
zw (.st 48 7 42)]
def c9_11 : C := .reg (some [4, 6, 7, 8]) [zq 43 (.mv 4),
zq 44 (.call (zf f_objects_Store_Set) [43, (zi 0), (zi 4), (.k (.int .u64 8))]),
zq 8 (.mv 44)]
def c9_12 : C := .reg (some [4, 6, 7, 8, 9]) [zq 45 (.mv 4),
zq 46 (.call (zf f_objects_Store_Table) [45]),
zq 9 (.alloc false (.agg 48 (List.replicate 49 (.agg 42 [(.int .i64 0), (.int .i64 0), (.int .i64 0)])))),
zw (.st 48 9 46)]
def c9_13 : C := .reg (some [4, 6, 7, 8, 9, 10]) [zq 48 (.mv 4),
zq 49 (.call (zf f_objects_Store_Get) [48, (zi 0)]),
zq 47 (.mv 49),
zq 50 (.ext 47 0),
zq 51 (.ext 47 1),
zq 10 (.alloc false (.agg 26 [(.int .i64 0), (.int .i64 0), (.agg 24 (List.replicate 8 (.int .u64 0)))])),
zw (.st 26 10 50),
zq 11 (.mv 51)]
def c9_14 : C := .reg (some [4, 6, 7, 8, 9, 10, 13]) [zq 53 (.mv 4),
zq 54 (.call (zf f_objects_Store_Make) [53, (zi 3)]),
zq 52 (.mv 54),
zq 55 (.ext 52 0),
zq 56 (.ext 52 1),
zq 12 (.mv 55),
zq 13 (.mv 56)]
def c9_15 : C := .reg (some [6, 7, 8, 9, 10, 13, 14, 15, 16]) [zq 58 (.mv 4),
zq 59 (.call (zf f_objects_Store_Next) [58, (zi 1)]),
zq 57 (.mv 59),
zq 60 (.ext 57 0),
zq 61 (.ext 57 1),
zq 62 (.ext 57 2),
zq 14 (.mv 60),
zq 15 (.mv 61),
zq 16 (.mv 62)]
def c9_16 : C := .reg (some [0]) [zq 63 (.mv 6),
zq 64 (.bin .eql 63 (zi 0)),
zq 65 (.mv 64),
zg 66 65 true (.mv 8),
zg 67 65 true (.bin .eql 66 (zi 0)),
zq 68 (.pick 65 67 (.k (.bool false))),
zq 69 (.mv 68),
zg 70 69 true (.iad 48 49 42 7 (zi 0)),
zg 71 69 true (.fad 42 2 10 70),
zg 72 69 true (.ld 10 71),
zg 73 69 true (.bin .neq 72 (zi 20)),
zq 74 (.pick 69 73 (.k (.bool false))),
zq 75 (.mv 74),
zg 76 75 true (.iad 48 49 42 9 (zi 0)),
zg 77 75 true (.fad 42 2 10 76),
zg 78 75 true (.ld 10 77),
zg 79 75 true (.iad 48 49 42 7 (zi 0)),
zg 80 75 true (.fad 42 2 10 79),
zg 81 75 true (.ld 10 80),
zg 82 75 true (.bin .eql 78 81),
zq 83 (.pick 75 82 (.k (.bool false))),
zq 84 (.mv 83),
zg 85 84 true (.fad 26 2 24 10),
zg 86 84 true (.ld 24 85),
zg 87 84 true (.bld (.agg 24 (List.replicate 8 (.int .u64 0))) [(3, (.k (.int .u64 7))), (4, (.k (.int .u64 8)))]),
zg 88 84 true (.eq false 24 86 87),
zq 89 (.pick 84 88 (.k (.bool false))),
zq 90 (.mv 89),
zg 91 90 true (.mv 13),
zg 92 90 true (.bin .eql 91 (zi 1)),
zq 93 (.pick 90 92 (.k (.bool false))),
zq 94 (.mv 93),
zg 95 94 true (.mv 14),
zg 96 94 true (.bin .eql 95 (zi 1)),
zq 97 (.pick 94 96 (.k (.bool false))),
zq 98 (.mv 97),
zg 99 98 true (.mv 15),
zg 100 98 true (.bin .eql 99 (zi 0)),
zq 101 (.pick 98 100 (.k (.bool false))),
zq 102 (.mv 101),
zg 103 102 true (.mv 16),
zg 104 102 true (.bin .eql 103 (zi 0)),
zq 105 (.pick 102 104 (.k (.bool false))),
zq 0 (.mv 105)]
/-- steadfast/steadfastlaw10.shown -/
@[go_sem] def fc_steadfastlaw10_shown : Fc := ⟨0,
  .seq (c9_0) (
  .seq (c9_1) (
  .seq (.seq (c9_2) (
  .cond (.t 22) (
    .seq (c9_3) (
    .ret)) (
    .skip))) (
  .seq (c9_4) (
  .seq (c9_5) (
  .seq (c9_6) (
  .seq (.seq (c9_7) (
  .cond (.t 38) (
    .seq (c9_8) (
    .ret)) (
    .skip))) (
  .seq (c9_9) (
  .seq (c9_10) (
  .seq (c9_11) (
  .seq (c9_12) (
  .seq (c9_13) (
  .seq (c9_14) (
  .seq (c9_15) (
  .seq (c9_16) (
  .ret))))))))))))))),
  [.t 0]⟩
def c10_0 : C := .reg (some [0]) [zq 2 (.mv (.k .nilp)),
zq 3 (.mv (zi 0))]
def c10_1 : C := .reg (some [0, 9]) [zq 4 (.mv 0),
zq 5 (.bin .lss 4 (zi 64)),
zq 6 (.mv 5),
zg 7 6 false (.mv 0),
zg 8 6 false (.bin .gtr 7 (zi 1024)),
zq 9 (.pick 6 (.k (.bool true)) 8)]
def c10_2 : C := .reg (some [2, 3]) [zq 2 (.mv (.k .nilp)),
zq 3 (.mv (zi 1))]
def c10_3 : C := .reg (some [2, 3]) [zq 10 (.mv 0),
zq 11 (.mksl true 57 55 (.agg 55 [(.agg 24 (List.replicate 8 (.int .u64 0))), (.agg 24 (List.replicate 8 (.int .u64 0))), .nils, (.agg 50 (List.replicate 8 (.int .i64 0)))]) 10 10),
zq 12 (.bld (.agg 59 [.nils, (.bool false), (.bool false), (.int .i64 0), (.int .i64 0)]) [(0, 11)]),
zq 13 (.box true 12),
zq 2 (.mv 13),
zq 3 (.mv (zi 0))]
/-- steadfast/nvm.New -/
@[go_sem] def fc_nvm_New : Fc := ⟨1,
  .seq (c10_0) (
  .seq (.seq (c10_1) (
  .cond (.t 9) (
    .seq (c10_2) (
    .ret)) (
    .skip))) (
  .seq (c10_3) (
  .ret))),
  [.t 2, .t 3]⟩
def c12_0 : C := .reg (some [0, 1, 6, 7]) [zq 6 (.box false 2),
zq 7 (.box false 3),
zq 8 (.mv (.k .nilp)),
zq 9 (.mv (zi 0))]
def c12_1 : C := .reg (some [0, 6, 7, 10, 11]) [zq 18 (.mv 1),
zq 19 (.mv 0),
zq 20 (.call (zf f_nvm_Memory_Lines) [19]),
zq 21 (.call (zf f_frames_New) [18, 20]),
zq 17 (.mv 21),
zq 22 (.ext 17 0),
zq 23 (.ext 17 1),
zq 10 (.mv 22),
zq 11 (.mv 23)]
def c12_2 : C := .reg (some [0, 6, 7, 10, 11, 25]) [zq 24 (.mv 11),
zq 25 (.bin .neq 24 (zi 0))]
def c12_3 : C := .reg (some [8, 9]) [zq 26 (.mv 11),
zq 8 (.mv (.k .nilp)),
zq 9 (.mv 26)]
def c12_4 : C := .reg (some [6, 7, 10, 12]) [zq 27 (.mv 0),
zq 28 (.mv 10),
zq 29 (.ld 48 6),
zq 30 (.ld 48 6),
zq 31 (.ld 50 7),
zq 32 (.bld (.agg 43 [.nilp, .nilp, (.agg 48 (List.replicate 49 (.agg 42 [(.int .i64 0), (.int .i64 0), (.int .i64 0)]))), (.agg 48 (List.replicate 49 (.agg 42 [(.int .i64 0), (.int .i64 0), (.int .i64 0)]))), (.agg 50 (List.replicate 8 (.int .i64 0))), (.agg 48 (List.replicate 49 (.agg 42 [(.int .i64 0), (.int .i64 0), (.int .i64 0)]))), (.bool false), (.agg 82 (List.replicate 1024 (.bool false)))]) [(0, 27), (1, 28), (2, 29), (3, 30), (4, 31)]),
zq 33 (.box true 32),
zq 12 (.mv 33)]
def c12_5 : C := .reg (some [7, 10, 12, 34, 35]) [zq 34 (.ld 48 6),
zq 35 (.mv (zi 0))]
def c12_6 : C := .reg (some [7, 10, 12, 34, 35, 36]) [zq 36 (.bin .lss 35 (zi 49))]
def c12_7 : C := .reg (some [7, 10, 12, 14, 34, 35]) [zq 37 (.idx 48 49 34 35),
zq 14 (.alloc false (.agg 42 [(.int .i64 0), (.int .i64 0), (.int .i64 0)])),
zw (.st 42 14 37)]
def c12_8 : C := .reg (some [7, 10, 12, 34, 35, 47]) [zq 38 (.fad 42 0 10 14),
zq 39 (.ld 10 38),
zq 40 (.bin .neq 39 (zi 0)),
zq 41 (.mv 40),
zg 42 41 true (.mv 10),
zg 43 41 true (.fad 42 2 10 14),
zg 44 41 true (.ld 10 43),
zg 45 41 true (.call (zf f_frames_Frames_Take) [42, 44]),
zg 46 41 true (.bin .neq 45 (zi 0)),
zq 47 (.pick 41 46 (.k (.bool false)))]
def c12_9 : C := .reg (some [8, 9]) [zq 8 (.mv (.k .nilp)),
zq 9 (.mv (zi 21))]
def c12_10 : C := .reg (some [7, 10, 12, 34, 35]) [zq 48 (.bin .add 35 (zi 1)),
zq 35 (.mv 48)]
def c12_11 : C := .reg (some [10, 12, 49, 50]) [zq 49 (.ld 50 7),
zq 50 (.mv (zi 0))]
def c12_12 : C := .reg (some [10, 12, 49, 50, 51]) [zq 51 (.bin .lss 50 (zi 8))]
def c12_13 : C := .reg (some [10, 12, 16, 49, 50]) [zq 52 (.idx 50 8 49 50),
zq 16 (.mv 52)]
def c12_14 : C := .reg (some [10, 12, 49, 50, 56]) [zq 53 (.mv 10),
zq 54 (.mv 16),
zq 55 (.call (zf f_frames_Frames_Take) [53, 54]),
zq 56 (.bin .neq 55 (zi 0))]
def c12_15 : C := .reg (some [8, 9]) [zq 8 (.mv (.k .nilp)),
zq 9 (.mv (zi 21))]
def c12_16 : C := .reg (some [10, 12, 49, 50]) [zq 57 (.bin .add 50 (zi 1)),
zq 50 (.mv 57)]
def c12_17 : C := .reg (some [12]) [zq 58 (.mv 12),
zq 59 (.call (zf f_objects_Store_share) [58])]
def c12_18 : C := .reg (some [8, 9]) [zq 60 (.mv 12),
zq 8 (.mv 60),
zq 9 (.mv (zi 0))]
def b_objects_Of_0 : C :=
    .seq (c12_6) (
    .seq (.cond (.t 36) (
      .skip) (
      .exit 0)) (
    .seq (.block 1 (
      .seq (c12_7) (
      .seq (c12_8) (
      .cond (.t 47) (
        .seq (c12_9) (
        .ret)) (
        .skip))))) (
    c12_10)))
def b_objects_Of_1 : C :=
    .seq (c12_12) (
    .seq (.cond (.t 51) (
      .skip) (
      .exit 2)) (
    .seq (.block 3 (
      .seq (c12_13) (
      .seq (c12_14) (
      .cond (.t 56) (
        .seq (c12_15) (
        .ret)) (
        .skip))))) (
    c12_16)))
/-- steadfast/objects.Of -/
@[go_sem] def fc_objects_Of : Fc := ⟨4,
  .seq (c12_0) (
  .seq (c12_1) (
  .seq (.seq (c12_2) (
  .cond (.t 25) (
    .seq (c12_3) (
    .ret)) (
    .skip))) (
  .seq (c12_4) (
  .seq (.seq (c12_5) (
  .block 0 (
    .loop [7, 10, 12, 34, 35] b_objects_Of_0))) (
  .seq (.seq (c12_11) (
  .block 2 (
    .loop [10, 12, 49, 50] b_objects_Of_1))) (
  .seq (c12_17) (
  .seq (c12_18) (
  .ret)))))))),
  [.t 8, .t 9]⟩
def c15_0 : C := .reg (some [0, 2]) [zq 2 (.alloc false (.agg 48 (List.replicate 49 (.agg 42 [(.int .i64 0), (.int .i64 0), (.int .i64 0)]))))]
def c15_1 : C := .reg (some [0, 2, 3]) [zq 5 (.bld (.agg 48 (List.replicate 49 (.agg 42 [(.int .i64 0), (.int .i64 0), (.int .i64 0)]))) []),
zq 3 (.alloc false (.agg 48 (List.replicate 49 (.agg 42 [(.int .i64 0), (.int .i64 0), (.int .i64 0)])))),
zw (.st 48 3 5)]
def c15_2 : C := .reg (some [0, 2, 3, 4]) [zq 4 (.mv (zi 0))]
def c15_3 : C := .reg (some [0, 2, 3, 4, 12]) [zq 6 (.mv 4),
zq 7 (.mv 0),
zq 8 (.bin .lss 6 7),
zq 9 (.mv 8),
zg 10 9 true (.mv 4),
zg 11 9 true (.bin .lss 10 (zi 49)),
zq 12 (.pick 9 11 (.k (.bool false)))]
def c15_4 : C := .reg (some [0, 2, 3, 4]) [zq 15 (.mv 4),
zq 16 (.mv 4),
zq 17 (.bin .rem 16 (zi 4)),
zq 18 (.bin .add (zi 1) 17),
zq 19 (.mv 4),
zq 20 (.mv 4),
zq 21 (.bin .add (zi 20) 20),
zq 22 (.bld (.agg 42 [(.int .i64 0), (.int .i64 0), (.int .i64 0)]) [(0, 18), (1, 19), (2, 21)]),
zq 23 (.iad 48 49 42 3 15),
zw (.st 42 23 22)]
def c15_5 : C := .reg (some [0, 2, 3, 4]) [zq 13 (.mv 4),
zq 14 (.bin .add 13 (zi 1)),
zq 4 (.mv 14)]
def c15_6 : C := .reg (some [2]) [zq 24 (.ld 48 3),
zw (.st 48 2 24)]
def b_steadfastlaw10_table_0 : C :=
    .seq (.seq (c15_3) (
    .cond (.t 12) (
      .skip) (
      .exit 0))) (
    .seq (.block 1 (
      c15_4)) (
    c15_5))
/-- steadfast/steadfastlaw10.table -/
@[go_sem] def fc_steadfastlaw10_table : Fc := ⟨1,
  .seq (c15_0) (
  .seq (c15_1) (
  .seq (.seq (c15_2) (
  .block 0 (
    .loop [0, 2, 3, 4] b_steadfastlaw10_table_0))) (
  .seq (c15_6) (
  .ret)))),
  [.cell 2 48]⟩
def c16_0 : C := .reg (some [0]) [zq 0 (.alloc false (.agg 50 (List.replicate 8 (.int .i64 0))))]
def c16_1 : C := .reg (some [0, 1]) [zq 3 (.bld (.agg 50 (List.replicate 8 (.int .i64 0))) []),
zq 1 (.alloc false (.agg 50 (List.replicate 8 (.int .i64 0)))),
zw (.st 50 1 3)]
def c16_2 : C := .reg (some [0, 1, 2]) [zq 2 (.mv (zi 0))]
def c16_3 : C := .reg (some [0, 1, 2, 5]) [zq 4 (.mv 2),
zq 5 (.bin .lss 4 (zi 8))]
def c16_4 : C := .reg (some [0, 1, 2]) [zq 8 (.mv 2),
zq 9 (.mv 2),
zq 10 (.bin .add (zi 10) 9),
zq 11 (.iad 50 8 10 1 8),
zw (.st 10 11 10)]
def c16_5 : C := .reg (some [0, 1, 2]) [zq 6 (.mv 2),
zq 7 (.bin .add 6 (zi 1)),
zq 2 (.mv 7)]
def c16_6 : C := .reg (some [0]) [zq 12 (.ld 50 1),
zw (.st 50 0 12)]
def b_steadfastlaw10_dir_0 : C :=
    .seq (.seq (c16_3) (
    .cond (.t 5) (
      .skip) (
      .exit 0))) (
    .seq (.block 1 (
      c16_4)) (
    c16_5))
/-- steadfast/steadfastlaw10.dir -/
@[go_sem] def fc_steadfastlaw10_dir : Fc := ⟨0,
  .seq (c16_0) (
  .seq (c16_1) (
  .seq (.seq (c16_2) (
  .block 0 (
    .loop [0, 1, 2] b_steadfastlaw10_dir_0))) (
  .seq (c16_6) (
  .ret)))),
  [.cell 0 50]⟩
def c17_0 : C := .reg (some [0, 1]) [zq 4 (.mv (zi 0))]
def c17_1 : C := .reg (some [0, 1, 6]) [zq 5 (.mv 0),
zq 6 (.bin .lss 5 (zi 0))]
def c17_2 : C := .reg (some [0, 1]) [zq 7 (.mv 0),
zq 8 (.bin .add 7 (zi 1)),
zq 9 (.un .neg 8),
zq 0 (.mv 9)]
def c17_3 : C := .reg (some [4]) [zq 10 (.mv 0),
zq 11 (.mv 1),
zq 12 (.bin .rem 10 11),
zq 4 (.mv 12)]
/-- steadfast/steadfastlaw10.kind -/
@[go_sem] def fc_steadfastlaw10_kind : Fc := ⟨2,
  .seq (c17_0) (
  .seq (.seq (c17_1) (
  .cond (.t 6) (
    c17_2) (
    .skip))) (
  .seq (c17_3) (
  .ret))),
  [.t 4]⟩
def c18_0 : C := .reg (some [0]) [zq 2 (.mv (zi 0))]
def c18_1 : C := .reg (some [2]) [zq 3 (.mv 0),
zq 4 (.nilc 3),
zq 5 (.fad 43 1 1 4),
zq 6 (.ld 1 5),
zq 7 (.call (zf f_frames_Frames_Left) [6]),
zq 2 (.mv 7)]
/-- (*steadfast/objects.Store).Left -/
@[go_sem] def fc_objects_Store_Left : Fc := ⟨1,
  .seq (c18_0) (
  .seq (c18_1) (
  .ret)),
  [.t 2]⟩
def c19_0 : C := .reg (some [0, 1, 2, 3]) [zq 8 (.mv (zi 0))]
def c19_1 : C := .reg (some [0, 1, 2, 3, 9]) [zq 12 (.mv 0),
zq 13 (.mv 1),
zq 14 (.call (zf f_objects_Store_is) [12, 13]),
zq 9 (.mv 14)]
def c19_2 : C := .reg (some [0, 1, 2, 3, 9, 15]) [zq 16 (.mv 9),
zq 17 (.bin .eql 16 (zi 1)),
zq 15 (.mv 17)]
def c19_3 : C := .reg (some [0, 1, 2, 3, 9, 15]) [zq 18 (.mv 2),
zq 19 (.bin .lss 18 (zi 0)),
zq 15 (.mv 19)]
def c19_4 : C := .reg (some [0, 1, 2, 3, 9, 15]) [zq 20 (.mv 2),
zq 21 (.bin .geq 20 (zi 8)),
zq 15 (.mv 21)]
def c19_5 : C := .reg (some [8]) [zq 8 (.mv (zi 1))]
def c19_6 : C := .reg (some [0, 1, 2, 3, 9, 22]) [zq 23 (.mv 9),
zq 24 (.bin .neq 23 (zi 0)),
zq 22 (.mv 24)]
def c19_7 : C := .reg (some [8]) [zq 25 (.mv 9),
zq 8 (.mv 25)]
def c19_8 : C := .reg (some [0, 1, 2, 3, 26]) [zq 27 (.mv 0),
zq 28 (.mv 1),
zq 29 (.call (zf f_objects_Store_own) [27, 28]),
zq 26 (.mv 29)]
def c19_9 : C := .regd (some [8]) [zq 30 (.mv 0),
zq 31 (.nilc 30),
zq 32 (.fad 43 0 1 31),
zq 33 (.ld 1 32),
zq 34 (.mv 0),
zq 35 (.mv 1),
zq 36 (.nilc 34),
zq 37 (.fad 43 2 48 36),
zq 38 (.iad 48 49 42 37 35),
zq 39 (.fad 42 2 10 38),
zq 40 (.ld 10 39),
zq 41 (.mv 2),
zq 42 (.mv 3),
zq 43 (.call (zf f_nvm_Memory_Store) [33, 40, 41, 42]),
zq 8 (.mv 43)]
def c19_10 : C := .reg (some [0, 1, 2, 3, 44]) [zq 45 (.mv 0),
zq 46 (.nilc 45),
zq 47 (.fad 43 1 1 46),
zq 48 (.ld 1 47),
zq 49 (.call (zf f_frames_Frames_Left) [48]),
zq 50 (.bin .eql 49 (zi 0)),
zq 44 (.mv 50)]
def c19_11 : C := .reg (some [8]) [zq 8 (.mv (zi 10))]
def c19_12 : C := .regd (some [0, 1, 2, 3, 9, 10]) [zq 52 (.mv 0),
zq 53 (.nilc 52),
zq 54 (.fad 43 0 1 53),
zq 55 (.ld 1 54),
zq 56 (.mv 0),
zq 57 (.mv 1),
zq 58 (.nilc 56),
zq 59 (.fad 43 2 48 58),
zq 60 (.iad 48 49 42 59 57),
zq 61 (.fad 42 2 10 60),
zq 62 (.ld 10 61),
zq 63 (.pcall (zf f_nvm_Memory_Load) [55, 62]),
zq 51 (.mv 63),
zq 64 (.ext 51 0),
zq 65 (.ext 51 1),
zq 10 (.alloc false (.agg 24 (List.replicate 8 (.int .u64 0)))),
zw (.st 24 10 64),
zq 9 (.mv 65)]
def c19_13 : C := .reg (some [0, 1, 2, 3, 9, 10, 67]) [zq 66 (.mv 9),
zq 67 (.bin .neq 66 (zi 0))]
def c19_14 : C := .reg (some [8]) [zq 68 (.mv 9),
zq 8 (.mv 68)]
def c19_15 : C := .reg (some [0, 1, 10]) [zq 69 (.mv 2),
zq 70 (.mv 3),
zq 71 (.iad 24 8 18 10 69),
zw (.st 18 71 70)]
def c19_16 : C := .reg (some [0, 1, 9, 11]) [zq 73 (.mv 0),
zq 74 (.ld 24 10),
zq 75 (.call (zf f_objects_Store_lay) [73, 74]),
zq 72 (.mv 75),
zq 76 (.ext 72 0),
zq 77 (.ext 72 1),
zq 11 (.mv 76),
zq 9 (.mv 77)]
def c19_17 : C := .reg (some [0, 1, 9, 11, 79]) [zq 78 (.mv 9),
zq 79 (.bin .neq 78 (zi 0))]
def c19_18 : C := .reg (some [8]) [zq 80 (.mv 9),
zq 8 (.mv 80)]
def c19_19 : C := .reg (some []) [zq 81 (.mv 0),
zq 82 (.mv 1),
zq 83 (.mv 11),
zq 84 (.nilc 81),
zq 85 (.fad 43 2 48 84),
zq 86 (.iad 48 49 42 85 82),
zq 87 (.fad 42 2 10 86),
zw (.st 10 87 83)]
def c19_20 : C := .reg (some [8]) [zq 8 (.mv (zi 0))]
/-- (*steadfast/objects.Store).Set -/
@[go_sem] def fc_objects_Store_Set : Fc := ⟨4,
  .seq (c19_0) (
  .seq (c19_1) (
  .seq (.block 0 (
    .seq (.seq (c19_2) (
    .cond (.t 15) (
      .skip) (
      .seq (c19_3) (
      .cond (.t 15) (
        .skip) (
        c19_4))))) (
    .cond (.t 15) (
      .seq (c19_5) (
      .ret)) (
      .seq (c19_6) (
      .cond (.t 22) (
        .seq (c19_7) (
        .ret)) (
        .seq (c19_8) (
        .cond (.t 26) (
          .seq (c19_9) (
          .ret)) (
          .seq (c19_10) (
          .cond (.t 44) (
            .seq (c19_11) (
            .ret)) (
            .skip)))))))))) (
  .seq (c19_12) (
  .seq (.seq (c19_13) (
  .cond (.t 67) (
    .seq (c19_14) (
    .ret)) (
    .skip))) (
  .seq (c19_15) (
  .seq (c19_16) (
  .seq (.seq (c19_17) (
  .cond (.t 79) (
    .seq (c19_18) (
    .ret)) (
    .skip))) (
  .seq (c19_19) (
  .seq (c19_20) (
  .ret)))))))))),
  [.t 8]⟩
def c20_0 : C := .reg (some [0, 1, 4]) [zq 4 (.alloc false (.agg 26 [(.int .i64 0), (.int .i64 0), (.agg 24 (List.replicate 8 (.int .u64 0)))])),
zq 5 (.mv (zi 0))]
def c20_1 : C := .reg (some [0, 1, 4, 6]) [zq 10 (.mv 0),
zq 11 (.mv 1),
zq 12 (.call (zf f_objects_Store_is) [10, 11]),
zq 6 (.mv 12)]
def c20_2 : C := .reg (some [0, 1, 4, 6, 14]) [zq 13 (.mv 6),
zq 14 (.bin .neq 13 (zi 0))]
def c20_3 : C := .reg (some [4, 5]) [zq 15 (.bld (.agg 26 [(.int .i64 0), (.int .i64 0), (.agg 24 (List.replicate 8 (.int .u64 0)))]) []),
zq 16 (.mv 6),
zw (.st 26 4 15),
zq 5 (.mv 16)]
def c20_4 : C := .reg (some [0, 4, 7]) [zq 17 (.mv 0),
zq 18 (.mv 1),
zq 19 (.nilc 17),
zq 20 (.fad 43 2 48 19),
zq 21 (.iad 48 49 42 20 18),
zq 22 (.ld 42 21),
zq 7 (.alloc false (.agg 42 [(.int .i64 0), (.int .i64 0), (.int .i64 0)])),
zw (.st 42 7 22)]
def c20_5 : C := .regd (some [4, 7, 8, 9]) [zq 24 (.mv 0),
zq 25 (.nilc 24),
zq 26 (.fad 43 0 1 25),
zq 27 (.ld 1 26),
zq 28 (.fad 42 2 10 7),
zq 29 (.ld 10 28),
zq 30 (.pcall (zf f_nvm_Memory_Load) [27, 29]),
zq 23 (.mv 30),
zq 31 (.ext 23 0),
zq 32 (.ext 23 1),
zq 8 (.alloc false (.agg 24 (List.replicate 8 (.int .u64 0)))),
zw (.st 24 8 31),
zq 9 (.mv 32)]
def c20_6 : C := .reg (some [4, 7, 8, 9, 34]) [zq 33 (.mv 9),
zq 34 (.bin .neq 33 (zi 0))]
def c20_7 : C := .reg (some [4, 5]) [zq 35 (.bld (.agg 26 [(.int .i64 0), (.int .i64 0), (.agg 24 (List.replicate 8 (.int .u64 0)))]) []),
zq 36 (.mv 9),
zw (.st 26 4 35),
zq 5 (.mv 36)]
def c20_8 : C := .reg (some [4, 5]) [zq 37 (.fad 42 0 10 7),
zq 38 (.ld 10 37),
zq 39 (.fad 42 1 10 7),
zq 40 (.ld 10 39),
zq 41 (.ld 24 8),
zq 42 (.bld (.agg 26 [(.int .i64 0), (.int .i64 0), (.agg 24 (List.replicate 8 (.int .u64 0)))]) [(0, 38), (1, 40), (2, 41)]),
zw (.st 26 4 42),
zq 5 (.mv (zi 0))]
/-- (*steadfast/objects.Store).Get -/
@[go_sem] def fc_objects_Store_Get : Fc := ⟨2,
  .seq (c20_0) (
  .seq (.seq (c20_1) (
  .seq (c20_2) (
  .cond (.t 14) (
    .seq (c20_3) (
    .ret)) (
    .skip)))) (
  .seq (c20_4) (
  .seq (c20_5) (
  .seq (.seq (c20_6) (
  .cond (.t 34) (
    .seq (c20_7) (
    .ret)) (
    .skip))) (
  .seq (c20_8) (
  .ret)))))),
  [.cell 4 26, .t 5]⟩
def c21_0 : C := .reg (some [0, 2]) [zq 2 (.alloc false (.agg 48 (List.replicate 49 (.agg 42 [(.int .i64 0), (.int .i64 0), (.int .i64 0)]))))]
def c21_1 : C := .reg (some [2]) [zq 3 (.mv 0),
zq 4 (.nilc 3),
zq 5 (.fad 43 2 48 4),
zq 6 (.ld 48 5),
zw (.st 48 2 6)]
/-- (*steadfast/objects.Store).Table -/
@[go_sem] def fc_objects_Store_Table : Fc := ⟨1,
  .seq (c21_0) (
  .seq (c21_1) (
  .ret)),
  [.cell 2 48]⟩
def c22_0 : C := .reg (some [0]) [zq 2 (.mv (zi 0))]
def c22_1 : C := .reg (some [0, 6]) [zq 3 (.mv 0),
zq 4 (.nilc 3),
zq 5 (.fad 43 6 0 4),
zq 6 (.ld 0 5)]
def c22_2 : C := .reg (some [2]) [zq 2 (.mv (zi 3))]
def c22_3 : C := .reg (some [0]) [zq 7 (.mv 0),
zq 8 (.mv 0),
zq 9 (.mv 0),
zq 10 (.nilc 9),
zq 11 (.fad 43 2 48 10),
zq 12 (.ld 48 11),
zq 13 (.nilc 7),
zq 14 (.fad 43 5 48 13),
zw (.st 48 14 12),
zq 15 (.nilc 8),
zq 16 (.fad 43 6 0 15),
zw (.st 0 16 (.k (.bool true)))]
def c22_4 : C := .reg (some []) [zq 17 (.mv 0),
zq 18 (.call (zf f_objects_Store_share) [17])]
def c22_5 : C := .reg (some [2]) [zq 2 (.mv (zi 0))]
/-- (*steadfast/objects.Store).Mark -/
@[go_sem] def fc_objects_Store_Mark : Fc := ⟨1,
  .seq (c22_0) (
  .seq (.seq (c22_1) (
  .cond (.t 6) (
    .seq (c22_2) (
    .ret)) (
    .skip))) (
  .seq (c22_3) (
  .seq (c22_4) (
  .seq (c22_5) (
  .ret))))),
  [.t 2]⟩
def c23_0 : C := .reg (some [0]) [zq 2 (.mv (zi 0)),
zq 3 (.mv (zi 0))]
def c23_1 : C := .reg (some [2, 3]) [zq 4 (.mv 0),
zq 5 (.nilc 4),
zq 6 (.fad 43 1 1 5),
zq 7 (.ld 1 6),
zq 8 (.call (zf f_frames_Frames_Alloc) [7]),
zq 9 (.ext 8 0),
zq 10 (.ext 8 1),
zq 2 (.mv 9),
zq 3 (.mv 10)]
/-- (*steadfast/objects.Store).Take -/
@[go_sem] def fc_objects_Store_Take : Fc := ⟨1,
  .seq (c23_0) (
  .seq (c23_1) (
  .ret)),
  [.t 2, .t 3]⟩
def c25_0 : C := .reg (some [0, 1]) [zq 4 (.mv (zi 0)),
zq 5 (.mv (zi 0))]
def c25_1 : C := .reg (some [0, 1, 6, 7, 8]) [zq 11 (.mv 0),
zq 12 (.mv 1),
zq 13 (.call (zf f_objects_Store_Next) [11, 12]),
zq 10 (.mv 13),
zq 14 (.ext 10 0),
zq 15 (.ext 10 1),
zq 16 (.ext 10 2),
zq 6 (.mv 14),
zq 7 (.mv 15),
zq 8 (.mv 16)]
def c25_2 : C := .reg (some [0, 1, 6, 7, 8, 18]) [zq 17 (.mv 8),
zq 18 (.bin .neq 17 (zi 0))]
def c25_3 : C := .reg (some [4, 5]) [zq 19 (.mv 8),
zq 4 (.mv (zi 0)),
zq 5 (.mv 19)]
def c25_4 : C := .reg (some [0, 1, 6, 7, 8, 9]) [zq 21 (.mv 0),
zq 22 (.bld (.agg 24 (List.replicate 8 (.int .u64 0))) []),
zq 23 (.call (zf f_objects_Store_lay) [21, 22]),
zq 20 (.mv 23),
zq 24 (.ext 20 0),
zq 25 (.ext 20 1),
zq 9 (.mv 24),
zq 8 (.mv 25)]
def c25_5 : C := .reg (some [0, 1, 6, 7, 8, 9, 27]) [zq 26 (.mv 8),
zq 27 (.bin .neq 26 (zi 0))]
def c25_6 : C := .reg (some [4, 5]) [zq 28 (.mv 8),
zq 4 (.mv (zi 0)),
zq 5 (.mv 28)]
def c25_7 : C := .reg (some [6]) [zq 29 (.mv 0),
zq 30 (.mv 6),
zq 31 (.mv 1),
zq 32 (.mv 7),
zq 33 (.mv 9),
zq 34 (.bld (.agg 42 [(.int .i64 0), (.int .i64 0), (.int .i64 0)]) [(0, 31), (1, 32), (2, 33)]),
zq 35 (.nilc 29),
zq 36 (.fad 43 2 48 35),
zq 37 (.iad 48 49 42 36 30),
zw (.st 42 37 34)]
def c25_8 : C := .reg (some [4, 5]) [zq 38 (.mv 6),
zq 4 (.mv 38),
zq 5 (.mv (zi 0))]
/-- (*steadfast/objects.Store).Make -/
@[go_sem] def fc_objects_Store_Make : Fc := ⟨2,
  .seq (c25_0) (
  .seq (c25_1) (
  .seq (.seq (c25_2) (
  .cond (.t 18) (
    .seq (c25_3) (
    .ret)) (
    .skip))) (
  .seq (c25_4) (
  .seq (.seq (c25_5) (
  .cond (.t 27) (
    .seq (c25_6) (
    .ret)) (
    .skip))) (
  .seq (c25_7) (
  .seq (c25_8) (
  .ret))))))),
  [.t 4, .t 5]⟩
def c26_0 : C := .reg (some [0, 1]) [zq 4 (.mv (zi 0))]
def c26_1 : C := .reg (some [0, 1, 5]) [zq 6 (.mv 0),
zq 7 (.mv 1),
zq 8 (.call (zf f_objects_Store_is) [6, 7]),
zq 5 (.mv 8)]
def c26_2 : C := .reg (some [0, 1, 5, 10]) [zq 9 (.mv 5),
zq 10 (.bin .neq 9 (zi 0))]
def c26_3 : C := .reg (some [4]) [zq 11 (.mv 5),
zq 4 (.mv 11)]
def c26_4 : C := .reg (some [0, 1, 14]) [zq 12 (.mv 0),
zq 13 (.mv 1),
zq 14 (.call (zf f_objects_Store_own) [12, 13])]
def c26_5 : C := .regd (some [0, 1]) [zq 15 (.mv 0),
zq 16 (.nilc 15),
zq 17 (.fad 43 1 1 16),
zq 18 (.ld 1 17),
zq 19 (.mv 0),
zq 20 (.mv 1),
zq 21 (.nilc 19),
zq 22 (.fad 43 2 48 21),
zq 23 (.iad 48 49 42 22 20),
zq 24 (.fad 42 2 10 23),
zq 25 (.ld 10 24),
zq 26 (.call (zf f_frames_Frames_Free) [18, 25])]
def c26_6 : C := .regd (some []) [zq 28 (.mv 0),
zq 29 (.mv 1),
zq 30 (.mv 0),
zq 31 (.mv 1),
zq 32 (.nilc 30),
zq 33 (.fad 43 2 48 32),
zq 34 (.iad 48 49 42 33 31),
zq 35 (.ld 42 34),
zq 36 (.pcall (zf f_entry_End) [35]),
zq 27 (.mv 36),
zq 37 (.ext 27 0),
zq 38 (.ext 27 1),
zq 39 (.nilc 28),
zq 40 (.fad 43 2 48 39),
zq 41 (.iad 48 49 42 40 29),
zw (.st 42 41 37)]
def c26_7 : C := .reg (some [4]) [zq 4 (.mv (zi 0))]
/-- (*steadfast/objects.Store).End -/
@[go_sem] def fc_objects_Store_End : Fc := ⟨2,
  .seq (c26_0) (
  .seq (.seq (c26_1) (
  .seq (c26_2) (
  .cond (.t 10) (
    .seq (c26_3) (
    .ret)) (
    .skip)))) (
  .seq (.seq (c26_4) (
  .cond (.t 14) (
    c26_5) (
    .skip))) (
  .seq (c26_6) (
  .seq (c26_7) (
  .ret))))),
  [.t 4]⟩
def c27_0 : C := .reg (some [0, 1, 4]) [zq 4 (.alloc false (.agg 24 (List.replicate 8 (.int .u64 0)))),
zq 5 (.mv (zi 0))]
def c27_1 : C := .reg (some [0, 4, 6]) [zq 7 (.mv 0),
zq 8 (.mv 1),
zq 9 (.call (zf f_nvm_Memory_at) [7, 8]),
zq 6 (.mv 9)]
def c27_2 : C := .reg (some [0, 4, 6, 10]) [zq 11 (.mv 6),
zq 12 (.eq false 1 11 (.k .nilp)),
zq 10 (.mv 12)]
def c27_3 : C := .reg (some [4, 5]) [zq 13 (.bld (.agg 24 (List.replicate 8 (.int .u64 0))) []),
zw (.st 24 4 13),
zq 5 (.mv (zi 1))]
def c27_4 : C := .reg (some [4, 6, 14]) [zq 15 (.mv 0),
zq 16 (.nilc 15),
zq 17 (.fad 59 1 0 16),
zq 18 (.ld 0 17),
zq 14 (.mv 18)]
def c27_5 : C := .reg (some [4, 5]) [zq 19 (.bld (.agg 24 (List.replicate 8 (.int .u64 0))) []),
zw (.st 24 4 19),
zq 5 (.mv (zi 4))]
def c27_6 : C := .reg (some [4, 5]) [zq 20 (.mv 6),
zq 21 (.nilc 20),
zq 22 (.fad 55 0 24 21),
zq 23 (.ld 24 22),
zw (.st 24 4 23),
zq 5 (.mv (zi 0))]
/-- (*steadfast/nvm.Memory).Load -/
@[go_sem] def fc_nvm_Memory_Load : Fc := ⟨2,
  .seq (c27_0) (
  .seq (c27_1) (
  .seq (.block 0 (
    .seq (c27_2) (
    .cond (.t 10) (
      .seq (c27_3) (
      .ret)) (
      .seq (c27_4) (
      .cond (.t 14) (
        .seq (c27_5) (
        .ret)) (
        .skip)))))) (
  .seq (c27_6) (
  .ret)))),
  [.cell 4 24, .t 5]⟩
def c28_0 : C := .reg (some [0, 2, 3]) [zq 2 (.alloc false (.agg 48 (List.replicate 49 (.agg 42 [(.int .i64 0), (.int .i64 0), (.int .i64 0)])))),
zq 3 (.alloc false (.agg 50 (List.replicate 8 (.int .i64 0))))]
def c28_1 : C := .regd (some [2, 3]) [zq 4 (.mv 0),
zq 5 (.nilc 4),
zq 6 (.fad 43 3 48 5),
zq 7 (.ld 48 6),
zq 8 (.mv 0),
zq 9 (.nilc 8),
zq 10 (.fad 43 4 50 9),
zq 11 (.lda 50 10 0),
zw (.sta 48 2 7 [0]),
zw (.st 50 3 11)]
/-- (*steadfast/objects.Store).Base -/
@[go_sem] def fc_objects_Store_Base : Fc := ⟨1,
  .seq (c28_0) (
  .seq (c28_1) (
  .ret)),
  [.cell 2 48, .cell 3 50]⟩
def c32_0 : C := .reg (some [0, 3]) [zq 3 (.box false 1),
zq 4 (.mv (zi 0))]
def c32_1 : C := .reg (some [0, 3, 9]) [zq 5 (.mv 0),
zq 6 (.nilc 5),
zq 7 (.fad 43 6 0 6),
zq 8 (.ld 0 7),
zq 9 (.un .not 8)]
def c32_2 : C := .reg (some [4]) [zq 4 (.mv (zi 3))]
def c32_3 : C := .regd (some [0]) [zq 10 (.mv 0),
zq 11 (.mv 0),
zq 12 (.mv 0),
zq 13 (.nilc 12),
zq 14 (.fad 43 5 48 13),
zq 15 (.ld 48 14),
zq 16 (.ld 50 3),
zq 17 (.nilc 10),
zq 18 (.fad 43 3 48 17),
zw (.sta 48 18 15 [3]),
zq 19 (.nilc 11),
zq 20 (.fad 43 4 50 19),
zw (.st 50 20 16)]
def c32_4 : C := .reg (some []) [zq 21 (.mv 0),
zq 22 (.call (zf f_objects_Store_unmark) [21])]
def c32_5 : C := .reg (some [4]) [zq 4 (.mv (zi 0))]
/-- (*steadfast/objects.Store).Commit -/
@[go_sem] def fc_objects_Store_Commit : Fc := ⟨2,
  .seq (c32_0) (
  .seq (.seq (c32_1) (
  .cond (.t 9) (
    .seq (c32_2) (
    .ret)) (
    .skip))) (
  .seq (c32_3) (
  .seq (c32_4) (
  .seq (c32_5) (
  .ret))))),
  [.t 4]⟩
def c33_0 : C := .reg (some [0]) [zq 2 (.mv (zi 0))]
def c33_1 : C := .reg (some [0, 7]) [zq 3 (.mv 0),
zq 4 (.nilc 3),
zq 5 (.fad 43 6 0 4),
zq 6 (.ld 0 5),
zq 7 (.un .not 6)]
def c33_2 : C := .reg (some [2]) [zq 2 (.mv (zi 3))]
def c33_3 : C := .reg (some []) [zq 8 (.mv 0),
zq 9 (.call (zf f_objects_Store_unmark) [8])]
def c33_4 : C := .reg (some [2]) [zq 2 (.mv (zi 0))]
/-- (*steadfast/objects.Store).Abort -/
@[go_sem] def fc_objects_Store_Abort : Fc := ⟨1,
  .seq (c33_0) (
  .seq (.seq (c33_1) (
  .cond (.t 7) (
    .seq (c33_2) (
    .ret)) (
    .skip))) (
  .seq (c33_3) (
  .seq (c33_4) (
  .ret)))),
  [.t 2]⟩
def c34_0 : C := .reg (some [0, 1]) [zq 4 (.mv (zi 0)),
zq 5 (.mv (zi 0)),
zq 6 (.mv (zi 0))]
def c34_1 : C := .reg (some [0, 9]) [zq 9 (.mv 1)]
def c34_2 : C := .reg (some [0, 9, 10]) [zq 11 (.bin .eql 9 (zi 1)),
zq 10 (.mv 11)]
def c34_3 : C := .reg (some [0, 9, 10]) [zq 12 (.bin .eql 9 (zi 2)),
zq 10 (.mv 12)]
def c34_4 : C := .reg (some [0, 10]) [zq 13 (.bin .eql 9 (zi 4)),
zq 10 (.mv 13)]
def c34_5 : C := .reg (some [4, 5, 6]) [zq 4 (.mv (zi 0)),
zq 5 (.mv (zi 0)),
zq 6 (.mv (zi 1))]
def c34_6 : C := .reg (some [17, 18]) [zq 14 (.mv 0),
zq 15 (.nilc 14),
zq 16 (.fad 43 2 48 15),
zq 17 (.ld 48 16),
zq 18 (.mv (zi 0))]
def c34_7 : C := .reg (some [17, 18, 19]) [zq 19 (.bin .lss 18 (zi 49))]
def c34_8 : C := .reg (some [7, 8, 17, 18]) [zq 20 (.mv 18),
zq 21 (.idx 48 49 17 18),
zq 8 (.alloc false (.agg 42 [(.int .i64 0), (.int .i64 0), (.int .i64 0)])),
zq 7 (.mv 20),
zw (.st 42 8 21)]
def c34_9 : C := .reg (some [7, 8, 17, 18, 23]) [zq 22 (.ld 42 8),
zq 23 (.call (zf f_entry_Open) [22])]
def c34_10 : C := .regd (some [4, 5, 6]) [zq 24 (.mv 7),
zq 25 (.fad 42 1 10 8),
zq 26 (.ld 10 25),
zq 4 (.mv 24),
zq 5 (.mv 26),
zq 6 (.mv (zi 0))]
def c34_11 : C := .reg (some [17, 18]) [zq 27 (.bin .add 18 (zi 1)),
zq 18 (.mv 27)]
def c34_12 : C := .reg (some [4, 5, 6]) [zq 4 (.mv (zi 0)),
zq 5 (.mv (zi 0)),
zq 6 (.mv (zi 34))]
def b_objects_Store_Next_0 : C :=
    .seq (c34_7) (
    .seq (.cond (.t 19) (
      .skip) (
      .exit 1)) (
    .seq (.block 2 (
      .seq (c34_8) (
      .seq (c34_9) (
      .cond (.t 23) (
        .seq (c34_10) (
        .ret)) (
        .skip))))) (
    c34_11)))
/-- (*steadfast/objects.Store).Next -/
@[go_sem] def fc_objects_Store_Next : Fc := ⟨2,
  .seq (c34_0) (
  .seq (.seq (c34_1) (
  .block 0 (
    .seq (.seq (c34_2) (
    .cond (.t 10) (
      .skip) (
      .seq (c34_3) (
      .cond (.t 10) (
        .skip) (
        c34_4))))) (
    .cond (.t 10) (
      .skip) (
      .seq (c34_5) (
      .ret)))))) (
  .seq (.seq (c34_6) (
  .block 1 (
    .loop [17, 18] b_objects_Store_Next_0))) (
  .seq (c34_12) (
  .ret)))),
  [.t 4, .t 5, .t 6]⟩
def c36_0 : C := .reg (some [0, 1]) [zq 4 (.mv (.k .nilp)),
zq 5 (.mv (zi 0))]
def c36_1 : C := .reg (some [0, 1, 18]) [zq 8 (.mv 0),
zq 9 (.bin .lss 8 (zi 0)),
zq 10 (.mv 9),
zg 11 10 false (.mv 0),
zg 12 10 false (.mv 1),
zg 13 10 false (.bin .gtr 11 12),
zq 14 (.pick 10 (.k (.bool true)) 13),
zq 15 (.mv 14),
zg 16 15 false (.mv 1),
zg 17 15 false (.bin .gtr 16 (zi 1024)),
zq 18 (.pick 15 (.k (.bool true)) 17)]
def c36_2 : C := .reg (some [4, 5]) [zq 4 (.mv (.k .nilp)),
zq 5 (.mv (zi 1))]
def c36_3 : C := .reg (some [0, 1, 6]) [zq 19 (.mv 0),
zq 20 (.mv 1),
zq 21 (.bld (.agg 80 [(.int .i64 0), (.int .i64 0), (.agg 78 (List.replicate 16 (.int .u64 0))), (.agg 78 (List.replicate 16 (.int .u64 0)))]) [(0, 19), (1, 20)]),
zq 22 (.box true 21),
zq 6 (.mv 22)]
def c36_4 : C := .reg (some [0, 6, 25, 26]) [zq 23 (.mv 1),
zq 24 (.mv 0),
zq 25 (.bin .sub 23 24),
zq 26 (.mv (zi 0))]
def c36_5 : C := .reg (some [0, 6, 25, 26, 27]) [zq 27 (.bin .lss 26 25)]
def c36_6 : C := .reg (some [0, 6, 7, 25, 26]) [zq 28 (.mv 26),
zq 7 (.mv 28)]
def c36_7 : C := .reg (some [0, 6, 25, 26]) [zq 29 (.mv 6),
zq 30 (.nilc 29),
zq 31 (.fad 80 2 78 30),
zq 32 (.mv 0),
zq 33 (.mv 7),
zq 34 (.bin .add 32 33),
zq 35 (.call (zf f_frames_set_turn) [31, 34])]
def c36_8 : C := .reg (some [0, 6, 25, 26]) [zq 36 (.bin .add 26 (zi 1)),
zq 26 (.mv 36)]
def c36_9 : C := .reg (some [4, 5]) [zq 37 (.mv 6),
zq 4 (.mv 37),
zq 5 (.mv (zi 0))]
def b_frames_New_0 : C :=
    .seq (c36_5) (
    .seq (.cond (.t 27) (
      .skip) (
      .exit 0)) (
    .seq (.block 1 (
      .seq (c36_6) (
      c36_7))) (
    c36_8)))
/-- steadfast/frames.New -/
@[go_sem] def fc_frames_New : Fc := ⟨2,
  .seq (c36_0) (
  .seq (.seq (c36_1) (
  .cond (.t 18) (
    .seq (c36_2) (
    .ret)) (
    .skip))) (
  .seq (c36_3) (
  .seq (.seq (c36_4) (
  .block 0 (
    .loop [0, 6, 25, 26] b_frames_New_0))) (
  .seq (c36_9) (
  .ret))))),
  [.t 4, .t 5]⟩
def c37_0 : C := .reg (some [0]) [zq 2 (.mv (zi 0))]
def c37_1 : C := .reg (some [2]) [zq 3 (.mv 0),
zq 4 (.nilc 3),
zq 5 (.fad 59 0 1 4),
zq 6 (.ld 1 5),
zq 7 (.len false 6),
zq 2 (.mv 7)]
/-- (*steadfast/nvm.Memory).Lines -/
@[go_sem] def fc_nvm_Memory_Lines : Fc := ⟨1,
  .seq (c37_0) (
  .seq (c37_1) (
  .ret)),
  [.t 2]⟩
def c38_0 : C := .reg (some [0, 1]) [zq 4 (.mv (zi 0))]
def c38_1 : C := .reg (some [0, 1, 5]) [zq 6 (.mv 0),
zq 7 (.mv 1),
zq 8 (.call (zf f_frames_Frames_in) [6, 7, (zi 0)]),
zq 5 (.mv 8)]
def c38_2 : C := .reg (some [0, 1, 5, 10]) [zq 9 (.mv 5),
zq 10 (.bin .eql 9 (zi 0))]
def c38_3 : C := .reg (some [5]) [zq 11 (.mv 0),
zq 12 (.nilc 11),
zq 13 (.fad 80 2 78 12),
zq 14 (.mv 1),
zq 15 (.call (zf f_frames_set_turn) [13, 14])]
def c38_4 : C := .reg (some [4]) [zq 16 (.mv 5),
zq 4 (.mv 16)]
/-- (*steadfast/frames.Frames).Take -/
@[go_sem] def fc_frames_Frames_Take : Fc := ⟨2,
  .seq (c38_0) (
  .seq (c38_1) (
  .seq (.seq (c38_2) (
  .cond (.t 10) (
    c38_3) (
    .skip))) (
  .seq (c38_4) (
  .ret)))),
  [.t 4]⟩
def c39_0 : C := .reg (some [0]) [zq 2 (.mv 0),
zq 3 (.bld (.agg 82 (List.replicate 1024 (.bool false))) []),
zq 4 (.nilc 2),
zq 5 (.fad 43 7 82 4),
zw (.st 82 5 3)]
def c39_1 : C := .regd (some [0]) [zq 6 (.mv 0),
zq 7 (.nilc 6),
zq 8 (.fad 43 7 82 7),
zq 9 (.mv 0),
zq 10 (.nilc 9),
zq 11 (.fad 43 3 48 10),
zq 12 (.ld 48 11),
zq 13 (.call (zf f_objects_lines_add) [8, 12])]
def c39_2 : C := .reg (some [0, 17]) [zq 14 (.mv 0),
zq 15 (.nilc 14),
zq 16 (.fad 43 6 0 15),
zq 17 (.ld 0 16)]
def c39_3 : C := .regd (some []) [zq 18 (.mv 0),
zq 19 (.nilc 18),
zq 20 (.fad 43 7 82 19),
zq 21 (.mv 0),
zq 22 (.nilc 21),
zq 23 (.fad 43 5 48 22),
zq 24 (.ld 48 23),
zq 25 (.call (zf f_objects_lines_add) [20, 24])]
/-- (*steadfast/objects.Store).share -/
@[go_sem] def fc_objects_Store_share : Fc := ⟨1,
  .seq (c39_0) (
  .seq (c39_1) (
  .seq (c39_2) (
  .cond (.t 17) (
    c39_3) (
    .skip)))),
  []⟩
def c44_0 : C := .reg (some [0]) [zq 2 (.mv (zi 0))]
def c44_1 : C := .reg (some [0, 3]) [zq 3 (.mv (zi 0))]
def c44_2 : C := .reg (some [3, 9, 10]) [zq 6 (.mv 0),
zq 7 (.nilc 6),
zq 8 (.fad 80 2 78 7),
zq 9 (.ld 78 8),
zq 10 (.mv (zi 0))]
def c44_3 : C := .reg (some [3, 9, 10, 11]) [zq 11 (.bin .lss 10 (zi 16))]
def c44_4 : C := .reg (some [3, 5, 9, 10]) [zq 12 (.idx 78 16 9 10),
zq 5 (.mv 12)]
def c44_5 : C := .reg (some [3, 9, 10]) [zq 13 (.mv 3),
zq 14 (.mv 5),
zq 15 (.call (zf f_math_bits_OnesCount64) [14]),
zq 16 (.bin .add 13 15),
zq 3 (.mv 16)]
def c44_6 : C := .reg (some [3, 9, 10]) [zq 17 (.bin .add 10 (zi 1)),
zq 10 (.mv 17)]
def c44_7 : C := .reg (some [2]) [zq 18 (.mv 3),
zq 2 (.mv 18)]
def b_frames_Frames_Left_0 : C :=
    .seq (c44_3) (
    .seq (.cond (.t 11) (
      .skip) (
      .exit 0)) (
    .seq (.block 1 (
      .seq (c44_4) (
      c44_5))) (
    c44_6)))
/-- (*steadfast/frames.Frames).Left -/
@[go_sem] def fc_frames_Frames_Left : Fc := ⟨1,
  .seq (c44_0) (
  .seq (c44_1) (
  .seq (.seq (c44_2) (
  .block 0 (
    .loop [3, 9, 10] b_frames_Frames_Left_0))) (
  .seq (c44_7) (
  .ret)))),
  [.t 2]⟩
def c45_0 : C := .reg (some [0, 1]) [zq 4 (.mv (zi 0))]
def c45_1 : C := .reg (some [0, 1, 5]) [zq 6 (.mv 1),
zq 7 (.bin .lss 6 (zi 0)),
zq 5 (.mv 7)]
def c45_2 : C := .reg (some [0, 1, 5]) [zq 8 (.mv 1),
zq 9 (.bin .geq 8 (zi 49)),
zq 5 (.mv 9)]
def c45_3 : C := .reg (some [4]) [zq 4 (.mv (zi 1))]
def c45_4 : C := .reg (some [10]) [zq 11 (.mv 0),
zq 12 (.mv 1),
zq 13 (.nilc 11),
zq 14 (.fad 43 2 48 13),
zq 15 (.iad 48 49 42 14 12),
zq 16 (.fad 42 0 10 15),
zq 17 (.ld 10 16),
zq 18 (.bin .eql 17 (zi 0)),
zq 10 (.mv 18)]
def c45_5 : C := .reg (some [4]) [zq 4 (.mv (zi 30))]
def c45_6 : C := .reg (some [4]) [zq 4 (.mv (zi 0))]
/-- (*steadfast/objects.Store).is -/
@[go_sem] def fc_objects_Store_is : Fc := ⟨2,
  .seq (c45_0) (
  .seq (.block 0 (
    .seq (.seq (c45_1) (
    .cond (.t 5) (
      .skip) (
      c45_2))) (
    .cond (.t 5) (
      .seq (c45_3) (
      .ret)) (
      .seq (c45_4) (
      .cond (.t 10) (
        .seq (c45_5) (
        .ret)) (
        .skip)))))) (
  .seq (c45_6) (
  .ret))),
  [.t 4]⟩
def c46_0 : C := .reg (some [0, 1]) [zq 4 (.mv (.k (.bool false)))]
def c46_1 : C := .regd (some [4]) [zq 5 (.mv 0),
zq 6 (.mv 0),
zq 7 (.mv 1),
zq 8 (.nilc 6),
zq 9 (.fad 43 2 48 8),
zq 10 (.iad 48 49 42 9 7),
zq 11 (.fad 42 2 10 10),
zq 12 (.ld 10 11),
zq 13 (.nilc 5),
zq 14 (.fad 43 7 82 13),
zq 15 (.iad 82 1024 0 14 12),
zq 16 (.ld 0 15),
zq 17 (.un .not 16),
zq 4 (.mv 17)]
/-- (*steadfast/objects.Store).own -/
@[go_sem] def fc_objects_Store_own : Fc := ⟨2,
  .seq (c46_0) (
  .seq (c46_1) (
  .ret)),
  [.t 4]⟩
def c47_0 : C := .reg (some [0, 1, 2, 3]) [zq 8 (.mv (zi 0))]
def c47_1 : C := .reg (some [0, 2, 3, 9]) [zq 11 (.mv 0),
zq 12 (.mv 1),
zq 13 (.call (zf f_nvm_Memory_at) [11, 12]),
zq 9 (.mv 13)]
def c47_2 : C := .reg (some [0, 2, 3, 9, 23]) [zq 14 (.mv 9),
zq 15 (.eq false 1 14 (.k .nilp)),
zq 16 (.mv 15),
zg 17 16 false (.mv 2),
zg 18 16 false (.bin .lss 17 (zi 0)),
zq 19 (.pick 16 (.k (.bool true)) 18),
zq 20 (.mv 19),
zg 21 20 false (.mv 2),
zg 22 20 false (.bin .geq 21 (zi 8)),
zq 23 (.pick 20 (.k (.bool true)) 22)]
def c47_3 : C := .reg (some [8]) [zq 8 (.mv (zi 1))]
def c47_4 : C := .reg (some [2, 3, 9, 10]) [zq 24 (.mv 0),
zq 25 (.call (zf f_nvm_Memory_step) [24]),
zq 10 (.mv 25)]
def c47_5 : C := .reg (some [2, 3, 9, 10, 27]) [zq 26 (.mv 10),
zq 27 (.bin .neq 26 (zi 0))]
def c47_6 : C := .reg (some [8]) [zq 28 (.mv 10),
zq 8 (.mv 28)]
def c47_7 : C := .reg (some [2, 3, 9]) [zq 29 (.mv 9),
zq 30 (.mv 2),
zq 31 (.mv 3),
zq 32 (.nilc 29),
zq 33 (.fad 55 0 24 32),
zq 34 (.iad 24 8 18 33 30),
zw (.st 18 34 31)]
def c47_8 : C := .reg (some []) [zq 35 (.mv 9),
zq 36 (.mv 9),
zq 37 (.nilc 36),
zq 38 (.fad 55 2 1 37),
zq 39 (.ld 1 38),
zq 40 (.mv 2),
zq 41 (.mv 3),
zq 42 (.bld (.agg 84 [(.int .i64 0), (.int .u64 0)]) [(0, 40), (1, 41)]),
zq 43 (.bsl false 86 84 (.agg 84 [(.int .i64 0), (.int .u64 0)]) 1 [(0, 42)]),
zq 44 (.app true 86 84 39 43),
zq 45 (.nilc 35),
zq 46 (.fad 55 2 1 45),
zw (.st 1 46 44)]
def c47_9 : C := .reg (some [8]) [zq 8 (.mv (zi 0))]
/-- (*steadfast/nvm.Memory).Store -/
@[go_sem] def fc_nvm_Memory_Store : Fc := ⟨4,
  .seq (c47_0) (
  .seq (c47_1) (
  .seq (.seq (c47_2) (
  .cond (.t 23) (
    .seq (c47_3) (
    .ret)) (
    .skip))) (
  .seq (.seq (c47_4) (
  .seq (c47_5) (
  .cond (.t 27) (
    .seq (c47_6) (
    .ret)) (
    .skip)))) (
  .seq (c47_7) (
  .seq (c47_8) (
  .seq (c47_9) (
  .ret))))))),
  [.t 8]⟩
def c48_0 : C := .reg (some [0, 3]) [zq 3 (.box false 1),
zq 4 (.mv (zi 0)),
zq 5 (.mv (zi 0))]
def c48_1 : C := .reg (some [0, 3, 6, 7]) [zq 12 (.mv 0),
zq 13 (.nilc 12),
zq 14 (.fad 43 1 1 13),
zq 15 (.ld 1 14),
zq 16 (.call (zf f_frames_Frames_Alloc) [15]),
zq 11 (.mv 16),
zq 17 (.ext 11 0),
zq 18 (.ext 11 1),
zq 6 (.mv 17),
zq 7 (.mv 18)]
def c48_2 : C := .reg (some [0, 3, 6, 7, 20]) [zq 19 (.mv 7),
zq 20 (.bin .neq 19 (zi 0))]
def c48_3 : C := .reg (some [4, 5]) [zq 21 (.mv 7),
zq 4 (.mv (zi 0)),
zq 5 (.mv 21)]
def c48_4 : C := .reg (some [0, 6, 22, 23]) [zq 22 (.ld 24 3),
zq 23 (.mv (zi 0))]
def c48_5 : C := .reg (some [0, 6, 22, 23, 24]) [zq 24 (.bin .lss 23 (zi 8))]
def c48_6 : C := .reg (some [0, 6, 8, 9, 22, 23]) [zq 25 (.mv 23),
zq 26 (.idx 24 8 22 23),
zq 8 (.mv 25),
zq 9 (.mv 26)]
def c48_7 : C := .reg (some [0, 6, 10, 22, 23]) [zq 27 (.mv 0),
zq 28 (.nilc 27),
zq 29 (.fad 43 0 1 28),
zq 30 (.ld 1 29),
zq 31 (.mv 6),
zq 32 (.mv 8),
zq 33 (.mv 9),
zq 34 (.call (zf f_nvm_Memory_Store) [30, 31, 32, 33]),
zq 10 (.mv 34)]
def c48_8 : C := .reg (some [0, 6, 10, 22, 23, 36]) [zq 35 (.mv 10),
zq 36 (.bin .neq 35 (zi 0))]
def c48_9 : C := .reg (some [4, 5]) [zq 37 (.mv 10),
zq 4 (.mv (zi 0)),
zq 5 (.mv 37)]
def c48_10 : C := .reg (some [0, 6, 22, 23]) [zq 38 (.bin .add 23 (zi 1)),
zq 23 (.mv 38)]
def c48_11 : C := .reg (some [4, 5]) [zq 39 (.mv 6),
zq 4 (.mv 39),
zq 5 (.mv (zi 0))]
def b_objects_Store_lay_0 : C :=
    .seq (c48_5) (
    .seq (.cond (.t 24) (
      .skip) (
      .exit 0)) (
    .seq (.block 1 (
      .seq (c48_6) (
      .seq (c48_7) (
      .seq (c48_8) (
      .cond (.t 36) (
        .seq (c48_9) (
        .ret)) (
        .skip)))))) (
    c48_10)))
/-- (*steadfast/objects.Store).lay -/
@[go_sem] def fc_objects_Store_lay : Fc := ⟨2,
  .seq (c48_0) (
  .seq (c48_1) (
  .seq (.seq (c48_2) (
  .cond (.t 20) (
    .seq (c48_3) (
    .ret)) (
    .skip))) (
  .seq (.seq (c48_4) (
  .block 0 (
    .loop [0, 6, 22, 23] b_objects_Store_lay_0))) (
  .seq (c48_11) (
  .ret))))),
  [.t 4, .t 5]⟩
def c49_0 : C := .reg (some [0]) [zq 2 (.mv (zi 0)),
zq 3 (.mv (zi 0))]
def c49_1 : C := .reg (some [0, 10, 11]) [zq 7 (.mv 0),
zq 8 (.nilc 7),
zq 9 (.fad 80 2 78 8),
zq 10 (.ld 78 9),
zq 11 (.mv (zi 0))]
def c49_2 : C := .reg (some [0, 10, 11, 12]) [zq 12 (.bin .lss 11 (zi 16))]
def c49_3 : C := .reg (some [0, 4, 5, 10, 11]) [zq 13 (.mv 11),
zq 14 (.idx 78 16 10 11),
zq 4 (.mv 13),
zq 5 (.mv 14)]
def c49_4 : C := .reg (some [0, 4, 5, 10, 11, 16]) [zq 15 (.mv 5),
zq 16 (.bin .neq 15 (.k (.int .u64 0)))]
def c49_5 : C := .reg (some [0, 6]) [zq 17 (.mv 4),
zq 18 (.bin .mul (zi 64) 17),
zq 19 (.mv 5),
zq 20 (.call (zf f_math_bits_TrailingZeros64) [19]),
zq 21 (.bin .add 18 20),
zq 6 (.mv 21)]
def c49_6 : C := .reg (some [6]) [zq 22 (.mv 0),
zq 23 (.nilc 22),
zq 24 (.fad 80 2 78 23),
zq 25 (.mv 6),
zq 26 (.call (zf f_frames_set_turn) [24, 25])]
def c49_7 : C := .reg (some [2, 3]) [zq 27 (.mv 6),
zq 2 (.mv 27),
zq 3 (.mv (zi 0))]
def c49_8 : C := .reg (some [0, 10, 11]) [zq 28 (.bin .add 11 (zi 1)),
zq 11 (.mv 28)]
def c49_9 : C := .reg (some [2, 3]) [zq 2 (.mv (zi 0)),
zq 3 (.mv (zi 10))]
def b_frames_Frames_Alloc_0 : C :=
    .seq (c49_2) (
    .seq (.cond (.t 12) (
      .skip) (
      .exit 0)) (
    .seq (.block 1 (
      .seq (c49_3) (
      .seq (c49_4) (
      .cond (.t 16) (
        .seq (c49_5) (
        .seq (c49_6) (
        .seq (c49_7) (
        .ret)))) (
        .skip))))) (
    c49_8)))
/-- (*steadfast/frames.Frames).Alloc -/
@[go_sem] def fc_frames_Frames_Alloc : Fc := ⟨1,
  .seq (c49_0) (
  .seq (.seq (c49_1) (
  .block 0 (
    .loop [0, 10, 11] b_frames_Frames_Alloc_0))) (
  .seq (c49_9) (
  .ret))),
  [.t 2, .t 3]⟩
def c50_0 : C := .reg (some [0, 1]) [zq 4 (.mv (zi 0))]
def c50_1 : C := .reg (some [0, 1, 5]) [zq 6 (.mv 0),
zq 7 (.mv 1),
zq 8 (.call (zf f_frames_Frames_in) [6, 7, (zi 1)]),
zq 5 (.mv 8)]
def c50_2 : C := .reg (some [0, 1, 5, 10]) [zq 9 (.mv 5),
zq 10 (.bin .eql 9 (zi 0))]
def c50_3 : C := .reg (some [5]) [zq 11 (.mv 0),
zq 12 (.nilc 11),
zq 13 (.fad 80 2 78 12),
zq 14 (.mv 1),
zq 15 (.call (zf f_frames_set_turn) [13, 14])]
def c50_4 : C := .reg (some [4]) [zq 16 (.mv 5),
zq 4 (.mv 16)]
/-- (*steadfast/frames.Frames).Free -/
@[go_sem] def fc_frames_Frames_Free : Fc := ⟨2,
  .seq (c50_0) (
  .seq (c50_1) (
  .seq (.seq (c50_2) (
  .cond (.t 10) (
    c50_3) (
    .skip))) (
  .seq (c50_4) (
  .ret)))),
  [.t 4]⟩
def c51_0 : C := .reg (some [1, 2]) [zq 1 (.box false 0),
zq 2 (.alloc false (.agg 42 [(.int .i64 0), (.int .i64 0), (.int .i64 0)])),
zq 3 (.mv (zi 0))]
def c51_1 : C := .reg (some [1, 2, 6]) [zq 4 (.fad 42 0 10 1),
zq 5 (.ld 10 4),
zq 6 (.bin .eql 5 (zi 0))]
def c51_2 : C := .reg (some [2, 3]) [zq 7 (.bld (.agg 42 [(.int .i64 0), (.int .i64 0), (.int .i64 0)]) []),
zw (.st 42 2 7),
zq 3 (.mv (zi 30))]
def c51_3 : C := .reg (some [2, 3]) [zq 8 (.fad 42 1 10 1),
zq 9 (.ld 10 8),
zq 10 (.fad 42 1 10 1),
zq 11 (.ld 10 10),
zq 12 (.bin .sub (zi 16777215) 11),
zq 13 (.mnx false (zi 1) 12),
zq 14 (.bin .add 9 13),
zq 15 (.bld (.agg 42 [(.int .i64 0), (.int .i64 0), (.int .i64 0)]) [(1, 14)]),
zw (.st 42 2 15),
zq 3 (.mv (zi 0))]
/-- steadfast/entry.End -/
@[go_sem] def fc_entry_End : Fc := ⟨1,
  .seq (c51_0) (
  .seq (.seq (c51_1) (
  .cond (.t 6) (
    .seq (c51_2) (
    .ret)) (
    .skip))) (
  .seq (c51_3) (
  .ret))),
  [.cell 2 42, .t 3]⟩
def c52_0 : C := .reg (some [0, 1]) [zq 4 (.mv (.k .nilp))]
def c52_1 : C := .reg (some [0, 1, 15]) [zq 5 (.mv 1),
zq 6 (.bin .lss 5 (zi 0)),
zq 7 (.mv 6),
zg 8 7 false (.mv 1),
zg 9 7 false (.mv 0),
zg 10 7 false (.nilc 9),
zg 11 7 false (.fad 59 0 1 10),
zg 12 7 false (.ld 1 11),
zg 13 7 false (.len false 12),
zg 14 7 false (.bin .geq 8 13),
zq 15 (.pick 7 (.k (.bool true)) 14)]
def c52_2 : C := .reg (some [4]) [zq 4 (.mv (.k .nilp))]
def c52_3 : C := .reg (some [4]) [zq 16 (.mv 0),
zq 17 (.nilc 16),
zq 18 (.fad 59 0 1 17),
zq 19 (.ld 1 18),
zq 20 (.mv 1),
zq 21 (.sad 55 19 20),
zq 4 (.mv 21)]
/-- (*steadfast/nvm.Memory).at -/
@[go_sem] def fc_nvm_Memory_at : Fc := ⟨2,
  .seq (c52_0) (
  .seq (.seq (c52_1) (
  .cond (.t 15) (
    .seq (c52_2) (
    .ret)) (
    .skip))) (
  .seq (c52_3) (
  .ret))),
  [.t 4]⟩
def c56_0 : C := .reg (some [0]) [zq 6 (.mv 0),
zq 7 (.nilc 6),
zq 8 (.fad 43 6 0 7),
zw (.st 0 8 (.k (.bool false)))]
def c56_1 : C := .reg (some [0]) [zq 9 (.mv 0),
zq 10 (.call (zf f_objects_Store_share) [9])]
def c56_2 : C := .reg (some [0, 2]) [zq 11 (.mv 0),
zq 12 (.nilc 11),
zq 13 (.fad 43 7 82 12),
zq 14 (.ld 82 13),
zq 2 (.alloc false (.agg 82 (List.replicate 1024 (.bool false)))),
zw (.st 82 2 14)]
def c56_3 : C := .reg (some [0, 2]) [zq 15 (.mv 0),
zq 16 (.nilc 15),
zq 17 (.fad 43 2 48 16),
zq 18 (.ld 48 17),
zq 19 (.call (zf f_objects_lines_add) [2, 18])]
def c56_4 : C := .reg (some [0, 2, 23, 24]) [zq 20 (.mv 0),
zq 21 (.nilc 20),
zq 22 (.fad 43 4 50 21),
zq 23 (.ld 50 22),
zq 24 (.mv (zi 0))]
def c56_5 : C := .reg (some [0, 2, 23, 24, 25]) [zq 25 (.bin .lss 24 (zi 8))]
def c56_6 : C := .reg (some [0, 2, 4, 23, 24]) [zq 26 (.idx 50 8 23 24),
zq 4 (.mv 26)]
def c56_7 : C := .reg (some [0, 2, 4, 23, 24, 32]) [zq 27 (.mv 4),
zq 28 (.bin .geq 27 (zi 0)),
zq 29 (.mv 28),
zg 30 29 true (.mv 4),
zg 31 29 true (.bin .lss 30 (zi 1024)),
zq 32 (.pick 29 31 (.k (.bool false)))]
def c56_8 : C := .reg (some [0, 2, 23, 24]) [zq 33 (.mv 4),
zq 34 (.iad 82 1024 0 2 33),
zw (.st 0 34 (.k (.bool true)))]
def c56_9 : C := .reg (some [0, 2, 23, 24]) [zq 35 (.bin .add 24 (zi 1)),
zq 24 (.mv 35)]
def c56_10 : C := .reg (some [0, 2, 40, 41]) [zq 36 (.mv 0),
zq 37 (.nilc 36),
zq 38 (.fad 43 0 1 37),
zq 39 (.ld 1 38),
zq 40 (.call (zf f_nvm_Memory_Lines) [39]),
zq 41 (.mv (zi 0))]
def c56_11 : C := .reg (some [0, 2, 40, 41, 42]) [zq 42 (.bin .lss 41 40)]
def c56_12 : C := .reg (some [0, 2, 5, 40, 41]) [zq 43 (.mv 41),
zq 5 (.mv 43)]
def c56_13 : C := .reg (some [0, 2, 5, 40, 41, 56]) [zq 44 (.mv 5),
zq 45 (.iad 82 1024 0 2 44),
zq 46 (.ld 0 45),
zq 47 (.un .not 46),
zq 48 (.mv 47),
zg 49 48 true (.mv 0),
zg 50 48 true (.nilc 49),
zg 51 48 true (.fad 43 1 1 50),
zg 52 48 true (.ld 1 51),
zg 53 48 true (.mv 5),
zg 54 48 true (.call (zf f_frames_Frames_State) [52, 53]),
zg 55 48 true (.bin .eql 54 (zi 1)),
zq 56 (.pick 48 55 (.k (.bool false)))]
def c56_14 : C := .reg (some [0, 2, 40, 41]) [zq 57 (.mv 0),
zq 58 (.nilc 57),
zq 59 (.fad 43 1 1 58),
zq 60 (.ld 1 59),
zq 61 (.mv 5),
zq 62 (.call (zf f_frames_Frames_Later) [60, 61])]
def c56_15 : C := .reg (some [0, 2, 40, 41]) [zq 63 (.bin .add 41 (zi 1)),
zq 41 (.mv 63)]
def c56_16 : C := .reg (some []) [zq 64 (.mv 0),
zq 65 (.nilc 64),
zq 66 (.fad 43 1 1 65),
zq 67 (.ld 1 66),
zq 68 (.call (zf f_frames_Frames_Settle) [67])]
def b_objects_Store_unmark_0 : C :=
    .seq (c56_5) (
    .seq (.cond (.t 25) (
      .skip) (
      .exit 0)) (
    .seq (.block 1 (
      .seq (c56_6) (
      .seq (c56_7) (
      .cond (.t 32) (
        c56_8) (
        .skip))))) (
    c56_9)))
def b_objects_Store_unmark_1 : C :=
    .seq (c56_11) (
    .seq (.cond (.t 42) (
      .skip) (
      .exit 2)) (
    .seq (.block 3 (
      .seq (c56_12) (
      .seq (c56_13) (
      .cond (.t 56) (
        c56_14) (
        .skip))))) (
    c56_15)))
/-- (*steadfast/objects.Store).unmark -/
@[go_sem] def fc_objects_Store_unmark : Fc := ⟨1,
  .seq (c56_0) (
  .seq (c56_1) (
  .seq (c56_2) (
  .seq (c56_3) (
  .seq (.seq (c56_4) (
  .block 0 (
    .loop [0, 2, 23, 24] b_objects_Store_unmark_0))) (
  .seq (.seq (c56_10) (
  .block 2 (
    .loop [0, 2, 40, 41] b_objects_Store_unmark_1))) (
  c56_16)))))),
  []⟩
def c57_0 : C := .reg (some [1]) [zq 1 (.box false 0),
zq 2 (.mv (.k (.bool false)))]
def c57_1 : C := .reg (some [2]) [zq 3 (.fad 42 0 10 1),
zq 4 (.ld 10 3),
zq 5 (.bin .eql 4 (zi 0)),
zq 6 (.mv 5),
zg 7 6 true (.fad 42 1 10 1),
zg 8 6 true (.ld 10 7),
zg 9 6 true (.bin .lss 8 (zi 16777215)),
zq 10 (.pick 6 9 (.k (.bool false))),
zq 2 (.mv 10)]
/-- steadfast/entry.Open -/
@[go_sem] def fc_entry_Open : Fc := ⟨1,
  .seq (c57_0) (
  .seq (c57_1) (
  .ret)),
  [.t 2]⟩
def c58_0 : C := .regd (some []) [zq 4 (.mv 0),
zq 5 (.mv 1),
zq 6 (.bin .quo 5 (zi 64)),
zq 7 (.nilc 4),
zq 8 (.iad 78 16 18 7 6),
zq 9 (.ld 18 8),
zq 10 (.mv 1),
zq 11 (.bin .rem 10 (zi 64)),
zq 12 (.bin .shl (.k (.int .u64 1)) 11),
zq 13 (.bin .xor 9 12),
zq 14 (.nilc 4),
zq 15 (.iad 78 16 18 14 6),
zw (.st 18 15 13)]
/-- (*steadfast/frames.set).turn -/
@[go_sem] def fc_frames_set_turn : Fc := ⟨2,
  c58_0,
  []⟩
def c59_0 : C := .reg (some [0, 1, 2]) [zq 6 (.mv (zi 0))]
def c59_1 : C := .reg (some [2, 9]) [zq 7 (.mv 0),
zq 8 (.mv 1),
zq 9 (.call (zf f_frames_Frames_State) [7, 8])]
def c59_2 : C := .reg (some [2, 9, 10]) [zq 11 (.bin .eql 9 (zi (-1))),
zq 10 (.mv 11)]
def c59_3 : C := .reg (some [6]) [zq 6 (.mv (zi 1))]
def c59_4 : C := .reg (some [12]) [zq 13 (.mv 2),
zq 14 (.bin .eql 9 13),
zq 12 (.mv 14)]
def c59_5 : C := .reg (some [6]) [zq 6 (.mv (zi 0))]
def c59_6 : C := .reg (some [6]) [zq 6 (.mv (zi 3))]
/-- (*steadfast/frames.Frames).in -/
@[go_sem] def fc_frames_Frames_in : Fc := ⟨3,
  .seq (c59_0) (
  .seq (.seq (c59_1) (
  .block 0 (
    .seq (c59_2) (
    .cond (.t 10) (
      .seq (c59_3) (
      .ret)) (
      .seq (c59_4) (
      .cond (.t 12) (
        .seq (c59_5) (
        .ret)) (
        .skip))))))) (
  .seq (c59_6) (
  .ret))),
  [.t 6]⟩
def c60_0 : C := .reg (some [0, 3]) [zq 3 (.box false 1)]
def c60_1 : C := .reg (some [0, 6, 7]) [zq 6 (.ld 48 3),
zq 7 (.mv (zi 0))]
def c60_2 : C := .reg (some [0, 6, 7, 8]) [zq 8 (.bin .lss 7 (zi 49))]
def c60_3 : C := .reg (some [0, 5, 6, 7]) [zq 9 (.idx 48 49 6 7),
zq 5 (.alloc false (.agg 42 [(.int .i64 0), (.int .i64 0), (.int .i64 0)])),
zw (.st 42 5 9)]
def c60_4 : C := .reg (some [0, 5, 6, 7, 12]) [zq 10 (.fad 42 0 10 5),
zq 11 (.ld 10 10),
zq 12 (.bin .neq 11 (zi 0))]
def c60_5 : C := .regd (some [0, 6, 7]) [zq 13 (.mv 0),
zq 14 (.fad 42 2 10 5),
zq 15 (.ld 10 14),
zq 16 (.nilc 13),
zq 17 (.iad 82 1024 0 16 15),
zw (.st 0 17 (.k (.bool true)))]
def c60_6 : C := .reg (some [0, 6, 7]) [zq 18 (.bin .add 7 (zi 1)),
zq 7 (.mv 18)]
def b_objects_lines_add_0 : C :=
    .seq (c60_2) (
    .seq (.cond (.t 8) (
      .skip) (
      .exit 0)) (
    .seq (.block 1 (
      .seq (c60_3) (
      .seq (c60_4) (
      .cond (.t 12) (
        c60_5) (
        .skip))))) (
    c60_6)))
/-- (*steadfast/objects.lines).add -/
@[go_sem] def fc_objects_lines_add : Fc := ⟨2,
  .seq (c60_0) (
  .seq (c60_1) (
  .block 0 (
    .loop [0, 6, 7] b_objects_lines_add_0))),
  []⟩
def c62_0 : C := .reg (some [0]) [zq 2 (.mv (zi 0))]
def c62_1 : C := .reg (some [0]) [zq 3 (.mv 0),
zq 4 (.bin .shr 3 (.k (.int .u64 1))),
zq 5 (.bin .and 4 (.k (.int .u64 6148914691236517205))),
zq 6 (.mv 0),
zq 7 (.bin .and 6 (.k (.int .u64 6148914691236517205))),
zq 8 (.bin .add 5 7),
zq 0 (.mv 8)]
def c62_2 : C := .reg (some [0]) [zq 9 (.mv 0),
zq 10 (.bin .shr 9 (.k (.int .u64 2))),
zq 11 (.bin .and 10 (.k (.int .u64 3689348814741910323))),
zq 12 (.mv 0),
zq 13 (.bin .and 12 (.k (.int .u64 3689348814741910323))),
zq 14 (.bin .add 11 13),
zq 0 (.mv 14)]
def c62_3 : C := .reg (some [0]) [zq 15 (.mv 0),
zq 16 (.bin .shr 15 (.k (.int .u64 4))),
zq 17 (.mv 0),
zq 18 (.bin .add 16 17),
zq 19 (.bin .and 18 (.k (.int .u64 1085102592571150095))),
zq 0 (.mv 19)]
def c62_4 : C := .reg (some [0]) [zq 20 (.mv 0),
zq 21 (.mv 0),
zq 22 (.bin .shr 21 (.k (.int .u64 8))),
zq 23 (.bin .add 20 22),
zq 0 (.mv 23)]
def c62_5 : C := .reg (some [0]) [zq 24 (.mv 0),
zq 25 (.mv 0),
zq 26 (.bin .shr 25 (.k (.int .u64 16))),
zq 27 (.bin .add 24 26),
zq 0 (.mv 27)]
def c62_6 : C := .reg (some [0]) [zq 28 (.mv 0),
zq 29 (.mv 0),
zq 30 (.bin .shr 29 (.k (.int .u64 32))),
zq 31 (.bin .add 28 30),
zq 0 (.mv 31)]
def c62_7 : C := .reg (some [2]) [zq 32 (.mv 0),
zq 33 (.conv .i64 32),
zq 34 (.bin .and 33 (zi 127)),
zq 2 (.mv 34)]
/-- math/bits.OnesCount64 -/
@[go_sem] def fc_math_bits_OnesCount64 : Fc := ⟨1,
  .seq (c62_0) (
  .seq (c62_1) (
  .seq (c62_2) (
  .seq (c62_3) (
  .seq (c62_4) (
  .seq (c62_5) (
  .seq (c62_6) (
  .seq (c62_7) (
  .ret)))))))),
  [.t 2]⟩
def c63_0 : C := .reg (some [0]) [zq 2 (.mv (zi 0))]
def c63_1 : C := .reg (some [0, 13]) [zq 3 (.mv 0),
zq 4 (.nilc 3),
zq 5 (.fad 59 2 0 4),
zq 6 (.ld 0 5),
zq 7 (.mv 6),
zg 8 7 true (.mv 0),
zg 9 7 true (.nilc 8),
zg 10 7 true (.fad 59 3 10 9),
zg 11 7 true (.ld 10 10),
zg 12 7 true (.bin .eql 11 (zi 0)),
zq 13 (.pick 7 12 (.k (.bool false)))]
def c63_2 : C := .reg (some [0]) [zq 14 (.mv 0),
zq 15 (.nilc 14),
zq 16 (.fad 59 1 0 15),
zw (.st 0 16 (.k (.bool true)))]
def c63_3 : C := .reg (some [0, 20]) [zq 17 (.mv 0),
zq 18 (.nilc 17),
zq 19 (.fad 59 1 0 18),
zq 20 (.ld 0 19)]
def c63_4 : C := .reg (some [2]) [zq 2 (.mv (zi 4))]
def c63_5 : C := .reg (some [0, 24]) [zq 21 (.mv 0),
zq 22 (.nilc 21),
zq 23 (.fad 59 2 0 22),
zq 24 (.ld 0 23)]
def c63_6 : C := .reg (some [0]) [zq 25 (.mv 0),
zq 26 (.nilc 25),
zq 27 (.fad 59 3 10 26),
zq 28 (.ld 10 27),
zq 29 (.bin .sub 28 (zi 1)),
zq 30 (.nilc 25),
zq 31 (.fad 59 3 10 30),
zw (.st 10 31 29)]
def c63_7 : C := .reg (some []) [zq 32 (.mv 0),
zq 33 (.nilc 32),
zq 34 (.fad 59 4 10 33),
zq 35 (.ld 10 34),
zq 36 (.bin .add 35 (zi 1)),
zq 37 (.nilc 32),
zq 38 (.fad 59 4 10 37),
zw (.st 10 38 36)]
def c63_8 : C := .reg (some [2]) [zq 2 (.mv (zi 0))]
/-- (*steadfast/nvm.Memory).step -/
@[go_sem] def fc_nvm_Memory_step : Fc := ⟨1,
  .seq (c63_0) (
  .seq (.seq (c63_1) (
  .cond (.t 13) (
    c63_2) (
    .skip))) (
  .seq (.seq (c63_3) (
  .cond (.t 20) (
    .seq (c63_4) (
    .ret)) (
    .skip))) (
  .seq (.seq (c63_5) (
  .cond (.t 24) (
    c63_6) (
    .skip))) (
  .seq (c63_7) (
  .seq (c63_8) (
  .ret)))))),
  [.t 2]⟩
def c64_0 : C := .reg (some [0]) [zq 2 (.mv (zi 0))]
def c64_1 : C := .reg (some [0, 4]) [zq 3 (.mv 0),
zq 4 (.bin .eql 3 (.k (.int .u64 0)))]
def c64_2 : C := .reg (some [2]) [zq 2 (.mv (zi 64))]
def c64_3 : C := .reg (some [2]) [zq 5 (.mv 0),
zq 6 (.mv 0),
zq 7 (.un .neg 6),
zq 8 (.bin .and 5 7),
zq 9 (.bin .mul 8 (.k (.int .u64 285870213051353865))),
zq 10 (.bin .shr 9 (.k (.int .u64 58))),
zq 11 (.iad 108 64 12 (.k glob_0) 10),
zq 12 (.ld 12 11),
zq 13 (.conv .i64 12),
zq 2 (.mv 13)]
/-- math/bits.TrailingZeros64 -/
@[go_sem] def fc_math_bits_TrailingZeros64 : Fc := ⟨1,
  .seq (c64_0) (
  .seq (.seq (c64_1) (
  .cond (.t 4) (
    .seq (c64_2) (
    .ret)) (
    .skip))) (
  .seq (c64_3) (
  .ret))),
  [.t 2]⟩
def c66_0 : C := .reg (some [0, 1]) [zq 4 (.mv (zi 0))]
def c66_1 : C := .reg (some [0, 1, 5]) [zq 6 (.mv 1),
zq 7 (.mv 0),
zq 8 (.nilc 7),
zq 9 (.fad 80 0 10 8),
zq 10 (.ld 10 9),
zq 11 (.bin .lss 6 10),
zq 5 (.mv 11)]
def c66_2 : C := .reg (some [0, 1, 5]) [zq 12 (.mv 1),
zq 13 (.mv 0),
zq 14 (.nilc 13),
zq 15 (.fad 80 1 10 14),
zq 16 (.ld 10 15),
zq 17 (.bin .geq 12 16),
zq 5 (.mv 17)]
def c66_3 : C := .reg (some [4]) [zq 4 (.mv (zi (-1)))]
def c66_4 : C := .reg (some [0, 1, 18]) [zq 19 (.mv 0),
zq 20 (.nilc 19),
zq 21 (.fad 80 2 78 20),
zq 22 (.mv 1),
zq 23 (.call (zf f_frames_set_has) [21, 22]),
zq 18 (.mv 23)]
def c66_5 : C := .reg (some [4]) [zq 4 (.mv (zi 0))]
def c66_6 : C := .reg (some [24]) [zq 25 (.mv 0),
zq 26 (.nilc 25),
zq 27 (.fad 80 3 78 26),
zq 28 (.mv 1),
zq 29 (.call (zf f_frames_set_has) [27, 28]),
zq 24 (.mv 29)]
def c66_7 : C := .reg (some [4]) [zq 4 (.mv (zi 2))]
def c66_8 : C := .reg (some [4]) [zq 4 (.mv (zi 1))]
/-- (*steadfast/frames.Frames).State -/
@[go_sem] def fc_frames_Frames_State : Fc := ⟨2,
  .seq (c66_0) (
  .seq (.block 0 (
    .seq (.seq (c66_1) (
    .cond (.t 5) (
      .skip) (
      c66_2))) (
    .cond (.t 5) (
      .seq (c66_3) (
      .ret)) (
      .seq (c66_4) (
      .cond (.t 18) (
        .seq (c66_5) (
        .ret)) (
        .seq (c66_6) (
        .cond (.t 24) (
          .seq (c66_7) (
          .ret)) (
          .skip)))))))) (
  .seq (c66_8) (
  .ret))),
  [.t 4]⟩
def c67_0 : C := .reg (some [0, 1]) [zq 4 (.mv (zi 0))]
def c67_1 : C := .reg (some [0, 1, 5]) [zq 6 (.mv 0),
zq 7 (.mv 1),
zq 8 (.call (zf f_frames_Frames_in) [6, 7, (zi 1)]),
zq 5 (.mv 8)]
def c67_2 : C := .reg (some [0, 1, 5, 10]) [zq 9 (.mv 5),
zq 10 (.bin .eql 9 (zi 0))]
def c67_3 : C := .reg (some [5]) [zq 11 (.mv 0),
zq 12 (.nilc 11),
zq 13 (.fad 80 3 78 12),
zq 14 (.mv 1),
zq 15 (.call (zf f_frames_set_turn) [13, 14])]
def c67_4 : C := .reg (some [4]) [zq 16 (.mv 5),
zq 4 (.mv 16)]
/-- (*steadfast/frames.Frames).Later -/
@[go_sem] def fc_frames_Frames_Later : Fc := ⟨2,
  .seq (c67_0) (
  .seq (c67_1) (
  .seq (.seq (c67_2) (
  .cond (.t 10) (
    c67_3) (
    .skip))) (
  .seq (c67_4) (
  .ret)))),
  [.t 4]⟩
def c68_0 : C := .reg (some [0, 7, 8]) [zq 4 (.mv 0),
zq 5 (.nilc 4),
zq 6 (.fad 80 3 78 5),
zq 7 (.ld 78 6),
zq 8 (.mv (zi 0))]
def c68_1 : C := .reg (some [0, 7, 8, 9]) [zq 9 (.bin .lss 8 (zi 16))]
def c68_2 : C := .reg (some [0, 2, 3, 7, 8]) [zq 10 (.mv 8),
zq 11 (.idx 78 16 7 8),
zq 2 (.mv 10),
zq 3 (.mv 11)]
def c68_3 : C := .regd (some [0, 7, 8]) [zq 12 (.mv 0),
zq 13 (.mv 2),
zq 14 (.nilc 12),
zq 15 (.fad 80 2 78 14),
zq 16 (.iad 78 16 18 15 13),
zq 17 (.ld 18 16),
zq 18 (.mv 3),
zq 19 (.bin .or 17 18),
zq 20 (.nilc 12),
zq 21 (.fad 80 2 78 20),
zq 22 (.iad 78 16 18 21 13),
zw (.st 18 22 19)]
def c68_4 : C := .reg (some [0, 7, 8]) [zq 23 (.bin .add 8 (zi 1)),
zq 8 (.mv 23)]
def c68_5 : C := .reg (some []) [zq 24 (.mv 0),
zq 25 (.bld (.agg 78 (List.replicate 16 (.int .u64 0))) []),
zq 26 (.nilc 24),
zq 27 (.fad 80 3 78 26),
zw (.st 78 27 25)]
def b_frames_Frames_Settle_0 : C :=
    .seq (c68_1) (
    .seq (.cond (.t 9) (
      .skip) (
      .exit 0)) (
    .seq (.block 1 (
      .seq (c68_2) (
      c68_3))) (
    c68_4)))
/-- (*steadfast/frames.Frames).Settle -/
@[go_sem] def fc_frames_Frames_Settle : Fc := ⟨1,
  .seq (.seq (c68_0) (
  .block 0 (
    .loop [0, 7, 8] b_frames_Frames_Settle_0))) (
  c68_5),
  []⟩
def c70_0 : C := .reg (some [0, 1]) [zq 4 (.mv (.k (.bool false)))]
def c70_1 : C := .reg (some [4]) [zq 5 (.mv 0),
zq 6 (.mv 1),
zq 7 (.bin .quo 6 (zi 64)),
zq 8 (.nilc 5),
zq 9 (.iad 78 16 18 8 7),
zq 10 (.ld 18 9),
zq 11 (.mv 1),
zq 12 (.bin .rem 11 (zi 64)),
zq 13 (.bin .shr 10 12),
zq 14 (.bin .and 13 (.k (.int .u64 1))),
zq 15 (.bin .eql 14 (.k (.int .u64 1))),
zq 4 (.mv 15)]
/-- (*steadfast/frames.set).has -/
@[go_sem] def fc_frames_set_has : Fc := ⟨2,
  .seq (c70_0) (
  .seq (c70_1) (
  .ret)),
  [.t 4]⟩
def D : Nat → Option Fc
  | 8 => some fc_steadfastlaw10_ObjectsFree
  | 9 => some fc_steadfastlaw10_shown
  | 10 => some fc_nvm_New
  | 12 => some fc_objects_Of
  | 15 => some fc_steadfastlaw10_table
  | 16 => some fc_steadfastlaw10_dir
  | 17 => some fc_steadfastlaw10_kind
  | 18 => some fc_objects_Store_Left
  | 19 => some fc_objects_Store_Set
  | 20 => some fc_objects_Store_Get
  | 21 => some fc_objects_Store_Table
  | 22 => some fc_objects_Store_Mark
  | 23 => some fc_objects_Store_Take
  | 25 => some fc_objects_Store_Make
  | 26 => some fc_objects_Store_End
  | 27 => some fc_nvm_Memory_Load
  | 28 => some fc_objects_Store_Base
  | 32 => some fc_objects_Store_Commit
  | 33 => some fc_objects_Store_Abort
  | 34 => some fc_objects_Store_Next
  | 36 => some fc_frames_New
  | 37 => some fc_nvm_Memory_Lines
  | 38 => some fc_frames_Frames_Take
  | 39 => some fc_objects_Store_share
  | 44 => some fc_frames_Frames_Left
  | 45 => some fc_objects_Store_is
  | 46 => some fc_objects_Store_own
  | 47 => some fc_nvm_Memory_Store
  | 48 => some fc_objects_Store_lay
  | 49 => some fc_frames_Frames_Alloc
  | 50 => some fc_frames_Frames_Free
  | 51 => some fc_entry_End
  | 52 => some fc_nvm_Memory_at
  | 56 => some fc_objects_Store_unmark
  | 57 => some fc_entry_Open
  | 58 => some fc_frames_set_turn
  | 59 => some fc_frames_Frames_in
  | 60 => some fc_objects_lines_add
  | 62 => some fc_math_bits_OnesCount64
  | 63 => some fc_nvm_Memory_step
  | 64 => some fc_math_bits_TrailingZeros64
  | 66 => some fc_frames_Frames_State
  | 67 => some fc_frames_Frames_Later
  | 68 => some fc_frames_Frames_Settle
  | 70 => some fc_frames_set_has
  | _ => none
theorem D_steadfastlaw10_ObjectsFree : D f_steadfastlaw10_ObjectsFree = some fc_steadfastlaw10_ObjectsFree := rfl
theorem D_steadfastlaw10_shown : D f_steadfastlaw10_shown = some fc_steadfastlaw10_shown := rfl
theorem D_nvm_New : D f_nvm_New = some fc_nvm_New := rfl
theorem D_objects_Of : D f_objects_Of = some fc_objects_Of := rfl
theorem D_steadfastlaw10_table : D f_steadfastlaw10_table = some fc_steadfastlaw10_table := rfl
theorem D_steadfastlaw10_dir : D f_steadfastlaw10_dir = some fc_steadfastlaw10_dir := rfl
theorem D_steadfastlaw10_kind : D f_steadfastlaw10_kind = some fc_steadfastlaw10_kind := rfl
theorem D_objects_Store_Left : D f_objects_Store_Left = some fc_objects_Store_Left := rfl
theorem D_objects_Store_Set : D f_objects_Store_Set = some fc_objects_Store_Set := rfl
theorem D_objects_Store_Get : D f_objects_Store_Get = some fc_objects_Store_Get := rfl
theorem D_objects_Store_Table : D f_objects_Store_Table = some fc_objects_Store_Table := rfl
theorem D_objects_Store_Mark : D f_objects_Store_Mark = some fc_objects_Store_Mark := rfl
theorem D_objects_Store_Take : D f_objects_Store_Take = some fc_objects_Store_Take := rfl
theorem D_objects_Store_Make : D f_objects_Store_Make = some fc_objects_Store_Make := rfl
theorem D_objects_Store_End : D f_objects_Store_End = some fc_objects_Store_End := rfl
theorem D_nvm_Memory_Load : D f_nvm_Memory_Load = some fc_nvm_Memory_Load := rfl
theorem D_objects_Store_Base : D f_objects_Store_Base = some fc_objects_Store_Base := rfl
theorem D_objects_Store_Commit : D f_objects_Store_Commit = some fc_objects_Store_Commit := rfl
theorem D_objects_Store_Abort : D f_objects_Store_Abort = some fc_objects_Store_Abort := rfl
theorem D_objects_Store_Next : D f_objects_Store_Next = some fc_objects_Store_Next := rfl
theorem D_frames_New : D f_frames_New = some fc_frames_New := rfl
theorem D_nvm_Memory_Lines : D f_nvm_Memory_Lines = some fc_nvm_Memory_Lines := rfl
theorem D_frames_Frames_Take : D f_frames_Frames_Take = some fc_frames_Frames_Take := rfl
theorem D_objects_Store_share : D f_objects_Store_share = some fc_objects_Store_share := rfl
theorem D_frames_Frames_Left : D f_frames_Frames_Left = some fc_frames_Frames_Left := rfl
theorem D_objects_Store_is : D f_objects_Store_is = some fc_objects_Store_is := rfl
theorem D_objects_Store_own : D f_objects_Store_own = some fc_objects_Store_own := rfl
theorem D_nvm_Memory_Store : D f_nvm_Memory_Store = some fc_nvm_Memory_Store := rfl
theorem D_objects_Store_lay : D f_objects_Store_lay = some fc_objects_Store_lay := rfl
theorem D_frames_Frames_Alloc : D f_frames_Frames_Alloc = some fc_frames_Frames_Alloc := rfl
theorem D_frames_Frames_Free : D f_frames_Frames_Free = some fc_frames_Frames_Free := rfl
theorem D_entry_End : D f_entry_End = some fc_entry_End := rfl
theorem D_nvm_Memory_at : D f_nvm_Memory_at = some fc_nvm_Memory_at := rfl
theorem D_objects_Store_unmark : D f_objects_Store_unmark = some fc_objects_Store_unmark := rfl
theorem D_entry_Open : D f_entry_Open = some fc_entry_Open := rfl
theorem D_frames_set_turn : D f_frames_set_turn = some fc_frames_set_turn := rfl
theorem D_frames_Frames_in : D f_frames_Frames_in = some fc_frames_Frames_in := rfl
theorem D_objects_lines_add : D f_objects_lines_add = some fc_objects_lines_add := rfl
theorem D_math_bits_OnesCount64 : D f_math_bits_OnesCount64 = some fc_math_bits_OnesCount64 := rfl
theorem D_nvm_Memory_step : D f_nvm_Memory_step = some fc_nvm_Memory_step := rfl
theorem D_math_bits_TrailingZeros64 : D f_math_bits_TrailingZeros64 = some fc_math_bits_TrailingZeros64 := rfl
theorem D_frames_Frames_State : D f_frames_Frames_State = some fc_frames_Frames_State := rfl
theorem D_frames_Frames_Later : D f_frames_Frames_Later = some fc_frames_Frames_Later := rfl
theorem D_frames_Frames_Settle : D f_frames_Frames_Settle = some fc_frames_Frames_Settle := rfl
theorem D_frames_set_has : D f_frames_set_has = some fc_frames_set_has := rfl
@[go_sem] def R8_0 (_base : Nat) (s : St) (v0 v1 : V) : OR :=
 some (.normal, [(0, v0), (1, v1)], s)
@[go_sem] theorem t8_0 : rc D b c8_0 ρ s = R8_0 b s (get ρ 0) (get ρ 1) := zr (by kernel_rfl)
@[go_sem] def R8_1 (_base : Nat) (s : St) (v0 v1 : V) : OR :=
 obind (rf D f_steadfastlaw10_shown [] s) fun x0 =>
 some (.normal, [(0, v0), (1, v1), (5, x0.1)], x0.2)
@[go_sem] theorem t8_1 : rc D b c8_1 ρ s = R8_1 b s (get ρ 0) (get ρ 1) := zr (by kernel_rfl)
@[go_sem] def R8_2 (_base : Nat) (s : St) (v0 v1 v5 : V) : OR :=
 obind (rf D f_nvm_New [(.int .i64 100)] s) fun x0 =>
 obind (extv 0 x0.1) fun x1 =>
 obind (extv 1 x0.1) fun _x2 =>
 some (.normal, [(0, v0), (1, v1), (5, v5), (6, x1)], x0.2)
@[go_sem] theorem t8_2 : rc D b c8_2 ρ s = R8_2 b s (get ρ 0) (get ρ 1) (get ρ 5) := zr (by kernel_rfl)
@[go_sem] def R8_3 (_base : Nat) (s : St) (v0 v1 v5 v6 : V) : OR :=
 obind (vun .not v5) fun x0 =>
 oguard x0 false (
   obind (eqv false 1 v6 .nilp) fun x1 =>
   some (.normal, [(0, v0), (1, v1), (6, v6), (35, x1)], s)) (
   some (.normal, [(0, v0), (1, v1), (6, v6), (35, (.bool true))], s)) (
   none)
@[go_sem] theorem t8_3 : rc D b c8_3 ρ s = R8_3 b s (get ρ 0) (get ρ 1) (get ρ 5) (get ρ 6) := zr (by kernel_rfl)
@[go_sem] def R8_4 (_base : Nat) (s : St) : OR :=
 some (.normal, [(4, (.bool false))], s)
@[go_sem] theorem t8_4 : rc D b c8_4 ρ s = R8_4 b s := zr (by kernel_rfl)
@[go_sem] def R8_5 (_base : Nat) (s : St) (v0 v1 v6 : V) : OR :=
 obind (rf D f_steadfastlaw10_table [(.int .i64 12)] s) fun x0 =>
 obind (rf D f_steadfastlaw10_dir [] x0.2) fun x1 =>
 obind (rf D f_objects_Of [v6, (.int .i64 10), x0.1, x1.1] x1.2) fun x2 =>
 obind (extv 0 x2.1) fun x3 =>
 obind (extv 1 x2.1) fun _x4 =>
 some (.normal, [(0, v0), (1, v1), (8, x3)], x2.2)
@[go_sem] theorem t8_5 : rc D b c8_5 ρ s = R8_5 b s (get ρ 0) (get ρ 1) (get ρ 6) := zr (by kernel_rfl)
@[go_sem] def R8_6 (_base : Nat) (s : St) (v0 v1 v8 : V) : OR :=
 obind (eqv false 1 v8 .nilp) fun x0 =>
 some (.normal, [(0, v0), (1, v1), (8, v8), (44, x0)], s)
@[go_sem] theorem t8_6 : rc D b c8_6 ρ s = R8_6 b s (get ρ 0) (get ρ 1) (get ρ 8) := zr (by kernel_rfl)
@[go_sem] def R8_7 (_base : Nat) (s : St) : OR :=
 some (.normal, [(4, (.bool false))], s)
@[go_sem] theorem t8_7 : rc D b c8_7 ρ s = R8_7 b s := zr (by kernel_rfl)
@[go_sem] def R8_8 (_base : Nat) (s : St) (v0 v1 v8 : V) : OR :=
 some (.normal, [(0, v0), (1, v1), (8, v8), (10, (.int .i64 0))], s)
@[go_sem] theorem t8_8 : rc D b c8_8 ρ s = R8_8 b s (get ρ 0) (get ρ 1) (get ρ 8) := zr (by kernel_rfl)
@[go_sem] def R8_9 (_base : Nat) (s : St) (v0 v1 v8 v10 : V) : OR :=
 obind (V.slen false v0) fun x0 =>
 obind (vbin .lss v10 (.int .i64 x0)) fun x1 =>
 oguard x1 true (
   obind (vbin .lss v10 (.int .i64 60)) fun x2 =>
   some (.normal, [(0, v0), (1, v1), (8, v8), (10, v10), (52, x2)], s)) (
   some (.normal, [(0, v0), (1, v1), (8, v8), (10, v10), (52, (.bool false))], s)) (
   none)
@[go_sem] theorem t8_9 : rc D b c8_9 ρ s = R8_9 b s (get ρ 0) (get ρ 1) (get ρ 8) (get ρ 10) := zr (by kernel_rfl)
@[go_sem] def R8_10 (base : Nat) (s : St) (v0 v1 v8 v10 : V) : OR :=
 obind (sadv 54 v0 v10) fun x0 =>
 obind (ldv s 54 x0) fun x1 =>
 let x2 : V := .ptr (St.fresh s false) [] 54; let s2 : St := St.new s false (.agg 54 [(.int .i64 0), (.int .i64 0), (.int .i64 0), (.int .u64 0)])
 obind (stv base s2 54 x1 x2) fun s3 =>
 some (.normal, [(0, v0), (1, v1), (8, v8), (10, v10), (11, x2)], s3)
@[go_sem] theorem t8_10 : rc D b c8_10 ρ s = R8_10 b s (get ρ 0) (get ρ 1) (get ρ 8) (get ρ 10) := zr (by kernel_rfl)
@[go_sem] def R8_11 (_base : Nat) (s : St) (v0 v1 v8 v10 v11 : V) : OR :=
 obind (vbin .eql v10 (.int .i64 20)) fun x0 =>
 some (.normal, [(0, v0), (1, v1), (8, v8), (10, v10), (11, v11), (60, x0)], s)
@[go_sem] theorem t8_11 : rc D b c8_11 ρ s = R8_11 b s (get ρ 0) (get ρ 1) (get ρ 8) (get ρ 10) (get ρ 11) := zr (by kernel_rfl)
@[go_sem] def R8_12 (_base : Nat) (s : St) (v0 v1 v8 v10 v11 : V) : OR :=
 obind (rf D f_objects_Store_Mark [v8] s) fun x0 =>
 some (.normal, [(0, v0), (1, v1), (8, v8), (10, v10), (11, v11)], x0.2)
@[go_sem] theorem t8_12 : rc D b c8_12 ρ s = R8_12 b s (get ρ 0) (get ρ 1) (get ρ 8) (get ρ 10) (get ρ 11) := zr (by kernel_rfl)
@[go_sem] def R8_13 (_base : Nat) (s : St) (v0 v1 v8 v10 v11 : V) : OR :=
 obind (fadv 54 0 10 v11) fun x0 =>
 obind (ldv s 10 x0) fun x1 =>
 obind (rf D f_steadfastlaw10_kind [x1, (.int .i64 3)] s) fun x2 =>
 some (.normal, [(0, v0), (1, v1), (8, v8), (10, v10), (11, v11), (65, x2.1)], x2.2)
@[go_sem] theorem t8_13 : rc D b c8_13 ρ s = R8_13 b s (get ρ 0) (get ρ 1) (get ρ 8) (get ρ 10) (get ρ 11) := zr (by kernel_rfl)
@[go_sem] def R8_14 (_base : Nat) (s : St) (v0 v1 v8 v10 v11 v65 : V) : OR :=
 obind (vbin .eql v65 (.int .i64 0)) fun x0 =>
 some (.normal, [(0, v0), (1, v1), (8, v8), (10, v10), (11, v11), (65, v65), (66, x0)], s)
@[go_sem] theorem t8_14 : rc D b c8_14 ρ s = R8_14 b s (get ρ 0) (get ρ 1) (get ρ 8) (get ρ 10) (get ρ 11) (get ρ 65) := zr (by kernel_rfl)
@[go_sem] def R8_15 (base : Nat) (s : St) (v0 v1 v8 v10 v11 : V) : OR :=
 obind (fadv 54 1 10 v11) fun x0 =>
 obind (ldv s 10 x0) fun x1 =>
 obind (pcallw D (pcut base [x1, (.int .i64 20)]) base f_steadfastlaw10_kind [x1, (.int .i64 20)] s) fun x2 =>
 obind (fadv 54 2 10 v11) fun x3 =>
 obind (ldv s 10 x3) fun x4 =>
 obind (pcallw D (pcut base [x4, (.int .i64 8)]) base f_steadfastlaw10_kind [x4, (.int .i64 8)] s) fun x5 =>
 obind (fadv 54 3 18 v11) fun x6 =>
 obind (ldv s 18 x6) fun x7 =>
 obind (rf D f_objects_Store_Set [v8, x2, x5, x7] s) fun x8 =>
 some (.normal, [(0, v0), (1, v1), (8, v8), (10, v10)], x8.2)
@[go_sem] theorem t8_15 : rc D b c8_15 ρ s = R8_15 b s (get ρ 0) (get ρ 1) (get ρ 8) (get ρ 10) (get ρ 11) := zd (by kernel_rfl)
@[go_sem] def R8_16 (_base : Nat) (s : St) (v0 v1 v8 v10 v11 v65 : V) : OR :=
 obind (vbin .eql v65 (.int .i64 1)) fun x0 =>
 some (.normal, [(0, v0), (1, v1), (8, v8), (10, v10), (11, v11), (65, v65), (78, x0)], s)
@[go_sem] theorem t8_16 : rc D b c8_16 ρ s = R8_16 b s (get ρ 0) (get ρ 1) (get ρ 8) (get ρ 10) (get ρ 11) (get ρ 65) := zr (by kernel_rfl)
@[go_sem] def R8_17 (_base : Nat) (s : St) (v0 v1 v8 v10 v11 : V) : OR :=
 obind (fadv 54 2 10 v11) fun x0 =>
 obind (ldv s 10 x0) fun x1 =>
 obind (rf D f_steadfastlaw10_kind [x1, (.int .i64 2)] s) fun x2 =>
 obind (vbin .add (.int .i64 1) x2.1) fun x3 =>
 obind (rf D f_objects_Store_Make [v8, x3] x2.2) fun x4 =>
 some (.normal, [(0, v0), (1, v1), (8, v8), (10, v10)], x4.2)
@[go_sem] theorem t8_17 : rc D b c8_17 ρ s = R8_17 b s (get ρ 0) (get ρ 1) (get ρ 8) (get ρ 10) (get ρ 11) := zr (by kernel_rfl)
@[go_sem] def R8_18 (_base : Nat) (s : St) (v0 v1 v8 v10 v11 v65 : V) : OR :=
 obind (vbin .eql v65 (.int .i64 2)) fun x0 =>
 some (.normal, [(0, v0), (1, v1), (8, v8), (10, v10), (11, v11), (86, x0)], s)
@[go_sem] theorem t8_18 : rc D b c8_18 ρ s = R8_18 b s (get ρ 0) (get ρ 1) (get ρ 8) (get ρ 10) (get ρ 11) (get ρ 65) := zr (by kernel_rfl)
@[go_sem] def R8_19 (_base : Nat) (s : St) (v0 v1 v8 v10 v11 : V) : OR :=
 obind (fadv 54 1 10 v11) fun x0 =>
 obind (ldv s 10 x0) fun x1 =>
 obind (rf D f_steadfastlaw10_kind [x1, (.int .i64 20)] s) fun x2 =>
 obind (rf D f_objects_Store_End [v8, x2.1] x2.2) fun x3 =>
 some (.normal, [(0, v0), (1, v1), (8, v8), (10, v10)], x3.2)
@[go_sem] theorem t8_19 : rc D b c8_19 ρ s = R8_19 b s (get ρ 0) (get ρ 1) (get ρ 8) (get ρ 10) (get ρ 11) := zr (by kernel_rfl)
@[go_sem] def R8_20 (_base : Nat) (s : St) (v0 v1 v8 v10 : V) : OR :=
 obind (vbin .add v10 (.int .i64 1)) fun x0 =>
 some (.normal, [(0, v0), (1, v1), (8, v8), (10, x0)], s)
@[go_sem] theorem t8_20 : rc D b c8_20 ρ s = R8_20 b s (get ρ 0) (get ρ 1) (get ρ 8) (get ρ 10) := zr (by kernel_rfl)
@[go_sem] def R8_21 (_base : Nat) (s : St) (v1 v8 : V) : OR :=
 obind (rf D f_objects_Store_Mark [v8] s) fun x0 =>
 some (.normal, [(1, v1), (8, v8)], x0.2)
@[go_sem] theorem t8_21 : rc D b c8_21 ρ s = R8_21 b s (get ρ 1) (get ρ 8) := zr (by kernel_rfl)
@[go_sem] def R8_22 (base : Nat) (s : St) (v1 v8 : V) : OR :=
 obind (rf D f_steadfastlaw10_dir [] s) fun x0 =>
 let x1 : V := .ptr (St.fresh x0.2 false) [] 50; let s1 : St := St.new x0.2 false (.agg 50 (List.replicate 8 (.int .i64 0)))
 obind (stv base s1 50 x0.1 x1) fun s2 =>
 some (.normal, [(1, v1), (8, v8), (12, x1)], s2)
@[go_sem] theorem t8_22 : rc D b c8_22 ρ s = R8_22 b s (get ρ 1) (get ρ 8) := zr (by kernel_rfl)
@[go_sem] def R8_23 (_base : Nat) (s : St) (v1 v8 v12 : V) : OR :=
 some (.normal, [(1, v1), (8, v8), (12, v12)], s)
@[go_sem] theorem t8_23 : rc D b c8_23 ρ s = R8_23 b s (get ρ 1) (get ρ 8) (get ρ 12) := zr (by kernel_rfl)
@[go_sem] def R8_24 (_base : Nat) (s : St) (v1 v8 v12 : V) : OR :=
 some (.normal, [(8, v8), (12, v12), (96, v1)], s)
@[go_sem] theorem t8_24 : rc D b c8_24 ρ s = R8_24 b s (get ρ 1) (get ρ 8) (get ρ 12) := zr (by kernel_rfl)
@[go_sem] def R8_25 (_base : Nat) (s : St) (v8 v12 : V) : OR :=
 some (.normal, [(8, v8), (12, v12), (14, (.int .i64 0))], s)
@[go_sem] theorem t8_25 : rc D b c8_25 ρ s = R8_25 b s (get ρ 8) (get ρ 12) := zr (by kernel_rfl)
@[go_sem] def R8_26 (_base : Nat) (s : St) (v8 v12 v14 : V) : OR :=
 obind (vbin .lss v14 (.int .i64 8)) fun x0 =>
 some (.normal, [(8, v8), (12, v12), (14, v14), (98, x0)], s)
@[go_sem] theorem t8_26 : rc D b c8_26 ρ s = R8_26 b s (get ρ 8) (get ρ 12) (get ρ 14) := zr (by kernel_rfl)
@[go_sem] def R8_27 (_base : Nat) (s : St) (v8 v12 v14 : V) : OR :=
 obind (rf D f_objects_Store_Take [v8] s) fun x0 =>
 obind (extv 0 x0.1) fun x1 =>
 obind (extv 1 x0.1) fun x2 =>
 some (.normal, [(8, v8), (12, v12), (14, v14), (15, x1), (16, x2)], x0.2)
@[go_sem] theorem t8_27 : rc D b c8_27 ρ s = R8_27 b s (get ρ 8) (get ρ 12) (get ρ 14) := zr (by kernel_rfl)
@[go_sem] def R8_28 (_base : Nat) (s : St) (v8 v12 v14 v15 v16 : V) : OR :=
 obind (vbin .neq v16 (.int .i64 0)) fun x0 =>
 some (.normal, [(8, v8), (12, v12), (14, v14), (15, v15), (107, x0)], s)
@[go_sem] theorem t8_28 : rc D b c8_28 ρ s = R8_28 b s (get ρ 8) (get ρ 12) (get ρ 14) (get ρ 15) (get ρ 16) := zr (by kernel_rfl)
@[go_sem] def R8_29 (_base : Nat) (s : St) : OR :=
 some (.normal, [(4, (.bool true))], s)
@[go_sem] theorem t8_29 : rc D b c8_29 ρ s = R8_29 b s := zr (by kernel_rfl)
@[go_sem] def R8_30 (base : Nat) (s : St) (v8 v12 v14 v15 : V) : OR :=
 obind (iadv 50 8 10 v12 v14) fun x0 =>
 obind (stv base s 10 v15 x0) fun s1 =>
 some (.normal, [(8, v8), (12, v12), (14, v14)], s1)
@[go_sem] theorem t8_30 : rc D b c8_30 ρ s = R8_30 b s (get ρ 8) (get ρ 12) (get ρ 14) (get ρ 15) := zr (by kernel_rfl)
@[go_sem] def R8_31 (_base : Nat) (s : St) (v8 v12 v14 : V) : OR :=
 obind (vbin .add v14 (.int .i64 1)) fun x0 =>
 some (.normal, [(8, v8), (12, v12), (14, x0)], s)
@[go_sem] theorem t8_31 : rc D b c8_31 ρ s = R8_31 b s (get ρ 8) (get ρ 12) (get ρ 14) := zr (by kernel_rfl)
@[go_sem] def R8_32 (_base : Nat) (s : St) (v8 v12 : V) : OR :=
 obind (ldv s 50 v12) fun x0 =>
 obind (rf D f_objects_Store_Commit [v8, x0] s) fun x1 =>
 some (.normal, [(8, v8), (12, v12), (13, x1.1)], x1.2)
@[go_sem] theorem t8_32 : rc D b c8_32 ρ s = R8_32 b s (get ρ 8) (get ρ 12) := zr (by kernel_rfl)
@[go_sem] def R8_33 (_base : Nat) (s : St) (v8 v12 : V) : OR :=
 obind (rf D f_objects_Store_Take [v8] s) fun x0 =>
 some (.normal, [(8, v8), (12, v12)], x0.2)
@[go_sem] theorem t8_33 : rc D b c8_33 ρ s = R8_33 b s (get ρ 8) (get ρ 12) := zr (by kernel_rfl)
@[go_sem] def R8_34 (_base : Nat) (s : St) (v8 v12 : V) : OR :=
 obind (rf D f_objects_Store_Abort [v8] s) fun x0 =>
 some (.normal, [(8, v8), (12, v12), (13, x0.1)], x0.2)
@[go_sem] theorem t8_34 : rc D b c8_34 ρ s = R8_34 b s (get ρ 8) (get ρ 12) := zr (by kernel_rfl)
@[go_sem] def R8_35 (base : Nat) (s : St) (v8 v12 v13 : V) : OR :=
 obind (rf D f_objects_Store_Base [v8] s) fun x0 =>
 obind (extv 0 x0.1) fun x1 =>
 obind (extv 1 x0.1) fun x2 =>
 let x3 : V := .ptr (St.fresh x0.2 false) [] 48; let s3 : St := St.new x0.2 false (.agg 48 (List.replicate 49 (.agg 42 [(.int .i64 0), (.int .i64 0), (.int .i64 0)])))
 let x4 : V := .ptr (St.fresh s3 false) [] 50; let s4 : St := St.new s3 false (.agg 50 (List.replicate 8 (.int .i64 0)))
 obind (stv base s4 48 x1 x3) fun s5 =>
 obind (stv base s5 50 x2 x4) fun s6 =>
 some (.normal, [(8, v8), (12, v12), (13, v13), (17, x3), (18, x4)], s6)
@[go_sem] theorem t8_35 : rc D b c8_35 ρ s = R8_35 b s (get ρ 8) (get ρ 12) (get ρ 13) := zr (by kernel_rfl)
@[go_sem] def R8_36 (base : Nat) (s : St) (v8 v12 v13 v17 v18 : V) : OR :=
 obind (rf D f_objects_Store_Table [v8] s) fun x0 =>
 let x1 : V := .ptr (St.fresh x0.2 false) [] 48; let s1 : St := St.new x0.2 false (.agg 48 (List.replicate 49 (.agg 42 [(.int .i64 0), (.int .i64 0), (.int .i64 0)])))
 obind (stv base s1 48 x0.1 x1) fun s2 =>
 some (.normal, [(8, v8), (12, v12), (13, v13), (17, v17), (18, v18), (19, x1)], s2)
@[go_sem] theorem t8_36 : rc D b c8_36 ρ s = R8_36 b s (get ρ 8) (get ρ 12) (get ρ 13) (get ρ 17) (get ρ 18) := zr (by kernel_rfl)
@[go_sem] def R8_37 (_base : Nat) (s : St) (v8 v12 v13 v17 v18 v19 : V) : OR :=
 obind (mkslv false 20 0 (.bool false) s (.int .i64 100) (.int .i64 100)) fun x0 =>
 some (.normal, [(8, v8), (12, v12), (13, v13), (17, v17), (18, v18), (19, v19), (20, x0.1)], x0.2)
@[go_sem] theorem t8_37 : rc D b c8_37 ρ s = R8_37 b s (get ρ 8) (get ρ 12) (get ρ 13) (get ρ 17) (get ρ 18) (get ρ 19) := zr (by kernel_rfl)
@[go_sem] def R8_38 (_base : Nat) (s : St) (v8 v12 v13 v17 v18 v19 v20 : V) : OR :=
 some (.normal, [(8, v8), (12, v12), (13, v13), (17, v17), (18, v18), (19, v19), (20, v20), (21, (.int .i64 0))], s)
@[go_sem] theorem t8_38 : rc D b c8_38 ρ s = R8_38 b s (get ρ 8) (get ρ 12) (get ρ 13) (get ρ 17) (get ρ 18) (get ρ 19) (get ρ 20) := zr (by kernel_rfl)
@[go_sem] def R8_39 (_base : Nat) (s : St) (v8 v12 v13 v17 v18 v19 v20 v21 : V) : OR :=
 obind (vbin .lss v21 (.int .i64 49)) fun x0 =>
 some (.normal, [(8, v8), (12, v12), (13, v13), (17, v17), (18, v18), (19, v19), (20, v20), (21, v21), (127, x0)], s)
@[go_sem] theorem t8_39 : rc D b c8_39 ρ s = R8_39 b s (get ρ 8) (get ρ 12) (get ρ 13) (get ρ 17) (get ρ 18) (get ρ 19) (get ρ 20) (get ρ 21) := zr (by kernel_rfl)
@[go_sem] def R8_40 (_base : Nat) (s : St) (v8 v12 v13 v17 v18 v19 v20 v21 : V) : OR :=
 obind (iadv 48 49 42 v17 v21) fun x0 =>
 obind (fadv 42 0 10 x0) fun x1 =>
 obind (ldv s 10 x1) fun x2 =>
 obind (vbin .neq x2 (.int .i64 0)) fun x3 =>
 some (.normal, [(8, v8), (12, v12), (13, v13), (17, v17), (18, v18), (19, v19), (20, v20), (21, v21), (134, x3)], s)
@[go_sem] theorem t8_40 : rc D b c8_40 ρ s = R8_40 b s (get ρ 8) (get ρ 12) (get ρ 13) (get ρ 17) (get ρ 18) (get ρ 19) (get ρ 20) (get ρ 21) := zr (by kernel_rfl)
@[go_sem] def R8_41 (base : Nat) (s : St) (v8 v12 v13 v17 v18 v19 v20 v21 : V) : OR :=
 obind (iadv 48 49 42 v17 v21) fun x0 =>
 obind (fadv 42 2 10 x0) fun x1 =>
 obind (ldv s 10 x1) fun x2 =>
 obind (sadv 0 v20 x2) fun x3 =>
 obind (stv base s 0 (.bool true) x3) fun s4 =>
 some (.normal, [(8, v8), (12, v12), (13, v13), (17, v17), (18, v18), (19, v19), (20, v20), (21, v21)], s4)
@[go_sem] theorem t8_41 : rc D b c8_41 ρ s = R8_41 b s (get ρ 8) (get ρ 12) (get ρ 13) (get ρ 17) (get ρ 18) (get ρ 19) (get ρ 20) (get ρ 21) := zr (by kernel_rfl)
@[go_sem] def R8_42 (_base : Nat) (s : St) (v8 v12 v13 v17 v18 v19 v20 v21 : V) : OR :=
 obind (iadv 48 49 42 v19 v21) fun x0 =>
 obind (fadv 42 0 10 x0) fun x1 =>
 obind (ldv s 10 x1) fun x2 =>
 obind (vbin .neq x2 (.int .i64 0)) fun x3 =>
 some (.normal, [(8, v8), (12, v12), (13, v13), (17, v17), (18, v18), (19, v19), (20, v20), (21, v21), (145, x3)], s)
@[go_sem] theorem t8_42 : rc D b c8_42 ρ s = R8_42 b s (get ρ 8) (get ρ 12) (get ρ 13) (get ρ 17) (get ρ 18) (get ρ 19) (get ρ 20) (get ρ 21) := zr (by kernel_rfl)
@[go_sem] def R8_43 (base : Nat) (s : St) (v8 v12 v13 v17 v18 v19 v20 v21 : V) : OR :=
 obind (iadv 48 49 42 v19 v21) fun x0 =>
 obind (fadv 42 2 10 x0) fun x1 =>
 obind (ldv s 10 x1) fun x2 =>
 obind (sadv 0 v20 x2) fun x3 =>
 obind (stv base s 0 (.bool true) x3) fun s4 =>
 some (.normal, [(8, v8), (12, v12), (13, v13), (17, v17), (18, v18), (19, v19), (20, v20), (21, v21)], s4)
@[go_sem] theorem t8_43 : rc D b c8_43 ρ s = R8_43 b s (get ρ 8) (get ρ 12) (get ρ 13) (get ρ 17) (get ρ 18) (get ρ 19) (get ρ 20) (get ρ 21) := zr (by kernel_rfl)
@[go_sem] def R8_44 (_base : Nat) (s : St) (v8 v12 v13 v17 v18 v19 v20 v21 : V) : OR :=
 obind (vbin .add v21 (.int .i64 1)) fun x0 =>
 some (.normal, [(8, v8), (12, v12), (13, v13), (17, v17), (18, v18), (19, v19), (20, v20), (21, x0)], s)
@[go_sem] theorem t8_44 : rc D b c8_44 ρ s = R8_44 b s (get ρ 8) (get ρ 12) (get ρ 13) (get ρ 17) (get ρ 18) (get ρ 19) (get ρ 20) (get ρ 21) := zr (by kernel_rfl)
@[go_sem] def R8_45 (_base : Nat) (s : St) (v8 v12 v13 v18 v20 : V) : OR :=
 some (.normal, [(8, v8), (12, v12), (13, v13), (18, v18), (20, v20), (22, (.int .i64 0))], s)
@[go_sem] theorem t8_45 : rc D b c8_45 ρ s = R8_45 b s (get ρ 8) (get ρ 12) (get ρ 13) (get ρ 18) (get ρ 20) := zr (by kernel_rfl)
@[go_sem] def R8_46 (_base : Nat) (s : St) (v8 v12 v13 v18 v20 v22 : V) : OR :=
 obind (vbin .lss v22 (.int .i64 8)) fun x0 =>
 some (.normal, [(8, v8), (12, v12), (13, v13), (18, v18), (20, v20), (22, v22), (153, x0)], s)
@[go_sem] theorem t8_46 : rc D b c8_46 ρ s = R8_46 b s (get ρ 8) (get ρ 12) (get ρ 13) (get ρ 18) (get ρ 20) (get ρ 22) := zr (by kernel_rfl)
@[go_sem] def R8_47 (base : Nat) (s : St) (v8 v12 v13 v18 v20 v22 : V) : OR :=
 obind (iadv 50 8 10 v18 v22) fun x0 =>
 obind (ldv s 10 x0) fun x1 =>
 obind (sadv 0 v20 x1) fun x2 =>
 obind (stv base s 0 (.bool true) x2) fun s3 =>
 some (.normal, [(8, v8), (12, v12), (13, v13), (18, v18), (20, v20), (22, v22)], s3)
@[go_sem] theorem t8_47 : rc D b c8_47 ρ s = R8_47 b s (get ρ 8) (get ρ 12) (get ρ 13) (get ρ 18) (get ρ 20) (get ρ 22) := zr (by kernel_rfl)
@[go_sem] def R8_48 (_base : Nat) (s : St) (v8 v12 v13 v18 v20 v22 : V) : OR :=
 obind (vbin .add v22 (.int .i64 1)) fun x0 =>
 some (.normal, [(8, v8), (12, v12), (13, v13), (18, v18), (20, v20), (22, x0)], s)
@[go_sem] theorem t8_48 : rc D b c8_48 ρ s = R8_48 b s (get ρ 8) (get ρ 12) (get ρ 13) (get ρ 18) (get ρ 20) (get ρ 22) := zr (by kernel_rfl)
@[go_sem] def R8_49 (_base : Nat) (s : St) (v8 v12 v13 v18 v20 : V) : OR :=
 some (.normal, [(8, v8), (12, v12), (13, v13), (18, v18), (20, v20), (23, (.int .i64 0))], s)
@[go_sem] theorem t8_49 : rc D b c8_49 ρ s = R8_49 b s (get ρ 8) (get ρ 12) (get ρ 13) (get ρ 18) (get ρ 20) := zr (by kernel_rfl)
@[go_sem] def R8_50 (_base : Nat) (s : St) (v8 v12 v13 v18 v20 v23 : V) : OR :=
 some (.normal, [(8, v8), (12, v12), (13, v13), (18, v18), (20, v20), (23, v23), (24, (.int .i64 10))], s)
@[go_sem] theorem t8_50 : rc D b c8_50 ρ s = R8_50 b s (get ρ 8) (get ρ 12) (get ρ 13) (get ρ 18) (get ρ 20) (get ρ 23) := zr (by kernel_rfl)
@[go_sem] def R8_51 (_base : Nat) (s : St) (v8 v12 v13 v18 v20 v23 v24 : V) : OR :=
 obind (vbin .lss v24 (.int .i64 100)) fun x0 =>
 some (.normal, [(8, v8), (12, v12), (13, v13), (18, v18), (20, v20), (23, v23), (24, v24), (162, x0)], s)
@[go_sem] theorem t8_51 : rc D b c8_51 ρ s = R8_51 b s (get ρ 8) (get ρ 12) (get ρ 13) (get ρ 18) (get ρ 20) (get ρ 23) (get ρ 24) := zr (by kernel_rfl)
@[go_sem] def R8_52 (_base : Nat) (s : St) (v8 v12 v13 v18 v20 v23 v24 : V) : OR :=
 obind (sadv 0 v20 v24) fun x0 =>
 obind (ldv s 0 x0) fun x1 =>
 obind (vun .not x1) fun x2 =>
 some (.normal, [(8, v8), (12, v12), (13, v13), (18, v18), (20, v20), (23, v23), (24, v24), (169, x2)], s)
@[go_sem] theorem t8_52 : rc D b c8_52 ρ s = R8_52 b s (get ρ 8) (get ρ 12) (get ρ 13) (get ρ 18) (get ρ 20) (get ρ 23) (get ρ 24) := zr (by kernel_rfl)
@[go_sem] def R8_53 (_base : Nat) (s : St) (v8 v12 v13 v18 v20 v23 v24 : V) : OR :=
 obind (vbin .add v23 (.int .i64 1)) fun x0 =>
 some (.normal, [(8, v8), (12, v12), (13, v13), (18, v18), (20, v20), (23, x0), (24, v24)], s)
@[go_sem] theorem t8_53 : rc D b c8_53 ρ s = R8_53 b s (get ρ 8) (get ρ 12) (get ρ 13) (get ρ 18) (get ρ 20) (get ρ 23) (get ρ 24) := zr (by kernel_rfl)
@[go_sem] def R8_54 (_base : Nat) (s : St) (v8 v12 v13 v18 v20 v23 v24 : V) : OR :=
 obind (vbin .add v24 (.int .i64 1)) fun x0 =>
 some (.normal, [(8, v8), (12, v12), (13, v13), (18, v18), (20, v20), (23, v23), (24, x0)], s)
@[go_sem] theorem t8_54 : rc D b c8_54 ρ s = R8_54 b s (get ρ 8) (get ρ 12) (get ρ 13) (get ρ 18) (get ρ 20) (get ρ 23) (get ρ 24) := zr (by kernel_rfl)
@[go_sem] def R8_55 (_base : Nat) (s : St) (v8 v12 v13 v18 v23 : V) : OR :=
 obind (vbin .eql v13 (.int .i64 0)) fun x0 =>
 oguard x0 true (
   obind (ldv s 50 v18) fun x1 =>
   obind (ldv s 50 v12) fun x2 =>
   obind (eqv false 50 x1 x2) fun x3 =>
   oguard x3 true (
     obind (rf D f_objects_Store_Left [v8] s) fun x4 =>
     obind (vbin .eql x4.1 v23) fun x5 =>
     some (.normal, [(4, x5)], x4.2)) (
     some (.normal, [(4, (.bool false))], s)) (
     none)) (
   some (.normal, [(4, (.bool false))], s)) (
   none)
@[go_sem] theorem t8_55 : rc D b c8_55 ρ s = R8_55 b s (get ρ 8) (get ρ 12) (get ρ 13) (get ρ 18) (get ρ 23) := zr (by kernel_rfl)
@[go_sem] def R10_0 (_base : Nat) (s : St) (v0 : V) : OR :=
 some (.normal, [(0, v0)], s)
@[go_sem] theorem t10_0 : rc D b c10_0 ρ s = R10_0 b s (get ρ 0) := zr (by kernel_rfl)
@[go_sem] def R10_1 (_base : Nat) (s : St) (v0 : V) : OR :=
 obind (vbin .lss v0 (.int .i64 64)) fun x0 =>
 oguard x0 false (
   obind (vbin .gtr v0 (.int .i64 1024)) fun x1 =>
   some (.normal, [(0, v0), (9, x1)], s)) (
   some (.normal, [(0, v0), (9, (.bool true))], s)) (
   none)
@[go_sem] theorem t10_1 : rc D b c10_1 ρ s = R10_1 b s (get ρ 0) := zr (by kernel_rfl)
@[go_sem] def R10_2 (_base : Nat) (s : St) : OR :=
 some (.normal, [(2, .nilp), (3, (.int .i64 1))], s)
@[go_sem] theorem t10_2 : rc D b c10_2 ρ s = R10_2 b s := zr (by kernel_rfl)
@[go_sem] def R10_3 (_base : Nat) (s : St) (v0 : V) : OR :=
 obind (mkslv true 57 55 (.agg 55 [(.agg 24 (List.replicate 8 (.int .u64 0))), (.agg 24 (List.replicate 8 (.int .u64 0))), .nils, (.agg 50 (List.replicate 8 (.int .i64 0)))]) s v0 v0) fun x0 =>
 obind (setParts [.nils, (.bool false), (.bool false), (.int .i64 0), (.int .i64 0)] [(0, x0.1)]) fun x1 =>
 if V.ok (.agg 59 x1) && mayNew true (.agg 59 x1) then let x2 : V := .ptr (St.fresh x0.2 true) [] (V.tag (.agg 59 x1)); let s2 : St := St.new x0.2 true (.agg 59 x1)
 some (.normal, [(2, x2), (3, (.int .i64 0))], s2)
 else none
@[go_sem] theorem t10_3 : rc D b c10_3 ρ s = R10_3 b s (get ρ 0) := zr (by kernel_rfl)
@[go_sem] def R12_0 (_base : Nat) (s : St) (v0 v1 v2 v3 : V) : OR :=
 if V.ok v2 && mayNew false v2 then let x0 : V := .ptr (St.fresh s false) [] (V.tag v2); let s0 : St := St.new s false v2
 if V.ok v3 && mayNew false v3 then let x1 : V := .ptr (St.fresh s0 false) [] (V.tag v3); let s1 : St := St.new s0 false v3
 some (.normal, [(0, v0), (1, v1), (6, x0), (7, x1)], s1)
 else none
 else none
@[go_sem] theorem t12_0 : rc D b c12_0 ρ s = R12_0 b s (get ρ 0) (get ρ 1) (get ρ 2) (get ρ 3) := zr (by kernel_rfl)
@[go_sem] def R12_1 (_base : Nat) (s : St) (v0 v1 v6 v7 : V) : OR :=
 obind (rf D f_nvm_Memory_Lines [v0] s) fun x0 =>
 obind (rf D f_frames_New [v1, x0.1] x0.2) fun x1 =>
 obind (extv 0 x1.1) fun x2 =>
 obind (extv 1 x1.1) fun x3 =>
 some (.normal, [(0, v0), (6, v6), (7, v7), (10, x2), (11, x3)], x1.2)
@[go_sem] theorem t12_1 : rc D b c12_1 ρ s = R12_1 b s (get ρ 0) (get ρ 1) (get ρ 6) (get ρ 7) := zr (by kernel_rfl)
@[go_sem] def R12_2 (_base : Nat) (s : St) (v0 v6 v7 v10 v11 : V) : OR :=
 obind (vbin .neq v11 (.int .i64 0)) fun x0 =>
 some (.normal, [(0, v0), (6, v6), (7, v7), (10, v10), (11, v11), (25, x0)], s)
@[go_sem] theorem t12_2 : rc D b c12_2 ρ s = R12_2 b s (get ρ 0) (get ρ 6) (get ρ 7) (get ρ 10) (get ρ 11) := zr (by kernel_rfl)
@[go_sem] def R12_3 (_base : Nat) (s : St) (v11 : V) : OR :=
 some (.normal, [(8, .nilp), (9, v11)], s)
@[go_sem] theorem t12_3 : rc D b c12_3 ρ s = R12_3 b s (get ρ 11) := zr (by kernel_rfl)
@[go_sem] def R12_4 (_base : Nat) (s : St) (v0 v6 v7 v10 : V) : OR :=
 obind (ldv s 48 v6) fun x0 =>
 obind (ldv s 48 v6) fun x1 =>
 obind (ldv s 50 v7) fun x2 =>
 obind (setParts [.nilp, .nilp, (.agg 48 (List.replicate 49 (.agg 42 [(.int .i64 0), (.int .i64 0), (.int .i64 0)]))), (.agg 48 (List.replicate 49 (.agg 42 [(.int .i64 0), (.int .i64 0), (.int .i64 0)]))), (.agg 50 (List.replicate 8 (.int .i64 0))), (.agg 48 (List.replicate 49 (.agg 42 [(.int .i64 0), (.int .i64 0), (.int .i64 0)]))), (.bool false), (.agg 82 (List.replicate 1024 (.bool false)))] [(0, v0), (1, v10), (2, x0), (3, x1), (4, x2)]) fun x3 =>
 if V.ok (.agg 43 x3) && mayNew true (.agg 43 x3) then let x4 : V := .ptr (St.fresh s true) [] (V.tag (.agg 43 x3)); let s4 : St := St.new s true (.agg 43 x3)
 some (.normal, [(6, v6), (7, v7), (10, v10), (12, x4)], s4)
 else none
@[go_sem] theorem t12_4 : rc D b c12_4 ρ s = R12_4 b s (get ρ 0) (get ρ 6) (get ρ 7) (get ρ 10) := zr (by kernel_rfl)
@[go_sem] def R12_5 (_base : Nat) (s : St) (v6 v7 v10 v12 : V) : OR :=
 obind (ldv s 48 v6) fun x0 =>
 some (.normal, [(7, v7), (10, v10), (12, v12), (34, x0), (35, (.int .i64 0))], s)
@[go_sem] theorem t12_5 : rc D b c12_5 ρ s = R12_5 b s (get ρ 6) (get ρ 7) (get ρ 10) (get ρ 12) := zr (by kernel_rfl)
@[go_sem] def R12_6 (_base : Nat) (s : St) (v7 v10 v12 v34 v35 : V) : OR :=
 obind (vbin .lss v35 (.int .i64 49)) fun x0 =>
 some (.normal, [(7, v7), (10, v10), (12, v12), (34, v34), (35, v35), (36, x0)], s)
@[go_sem] theorem t12_6 : rc D b c12_6 ρ s = R12_6 b s (get ρ 7) (get ρ 10) (get ρ 12) (get ρ 34) (get ρ 35) := zr (by kernel_rfl)
@[go_sem] def R12_7 (base : Nat) (s : St) (v7 v10 v12 v34 v35 : V) : OR :=
 obind (idxv 48 49 v34 v35) fun x0 =>
 let x1 : V := .ptr (St.fresh s false) [] 42; let s1 : St := St.new s false (.agg 42 [(.int .i64 0), (.int .i64 0), (.int .i64 0)])
 obind (stv base s1 42 x0 x1) fun s2 =>
 some (.normal, [(7, v7), (10, v10), (12, v12), (14, x1), (34, v34), (35, v35)], s2)
@[go_sem] theorem t12_7 : rc D b c12_7 ρ s = R12_7 b s (get ρ 7) (get ρ 10) (get ρ 12) (get ρ 34) (get ρ 35) := zr (by kernel_rfl)
@[go_sem] def R12_8 (_base : Nat) (s : St) (v7 v10 v12 v14 v34 v35 : V) : OR :=
 obind (fadv 42 0 10 v14) fun x0 =>
 obind (ldv s 10 x0) fun x1 =>
 obind (vbin .neq x1 (.int .i64 0)) fun x2 =>
 oguard x2 true (
   obind (fadv 42 2 10 v14) fun x3 =>
   obind (ldv s 10 x3) fun x4 =>
   obind (rf D f_frames_Frames_Take [v10, x4] s) fun x5 =>
   obind (vbin .neq x5.1 (.int .i64 0)) fun x6 =>
   some (.normal, [(7, v7), (10, v10), (12, v12), (34, v34), (35, v35), (47, x6)], x5.2)) (
   some (.normal, [(7, v7), (10, v10), (12, v12), (34, v34), (35, v35), (47, (.bool false))], s)) (
   none)
@[go_sem] theorem t12_8 : rc D b c12_8 ρ s = R12_8 b s (get ρ 7) (get ρ 10) (get ρ 12) (get ρ 14) (get ρ 34) (get ρ 35) := zr (by kernel_rfl)
@[go_sem] def R12_9 (_base : Nat) (s : St) : OR :=
 some (.normal, [(8, .nilp), (9, (.int .i64 21))], s)
@[go_sem] theorem t12_9 : rc D b c12_9 ρ s = R12_9 b s := zr (by kernel_rfl)
@[go_sem] def R12_10 (_base : Nat) (s : St) (v7 v10 v12 v34 v35 : V) : OR :=
 obind (vbin .add v35 (.int .i64 1)) fun x0 =>
 some (.normal, [(7, v7), (10, v10), (12, v12), (34, v34), (35, x0)], s)
@[go_sem] theorem t12_10 : rc D b c12_10 ρ s = R12_10 b s (get ρ 7) (get ρ 10) (get ρ 12) (get ρ 34) (get ρ 35) := zr (by kernel_rfl)
@[go_sem] def R12_11 (_base : Nat) (s : St) (v7 v10 v12 : V) : OR :=
 obind (ldv s 50 v7) fun x0 =>
 some (.normal, [(10, v10), (12, v12), (49, x0), (50, (.int .i64 0))], s)
@[go_sem] theorem t12_11 : rc D b c12_11 ρ s = R12_11 b s (get ρ 7) (get ρ 10) (get ρ 12) := zr (by kernel_rfl)
@[go_sem] def R12_12 (_base : Nat) (s : St) (v10 v12 v49 v50 : V) : OR :=
 obind (vbin .lss v50 (.int .i64 8)) fun x0 =>
 some (.normal, [(10, v10), (12, v12), (49, v49), (50, v50), (51, x0)], s)
@[go_sem] theorem t12_12 : rc D b c12_12 ρ s = R12_12 b s (get ρ 10) (get ρ 12) (get ρ 49) (get ρ 50) := zr (by kernel_rfl)
@[go_sem] def R12_13 (_base : Nat) (s : St) (v10 v12 v49 v50 : V) : OR :=
 obind (idxv 50 8 v49 v50) fun x0 =>
 some (.normal, [(10, v10), (12, v12), (16, x0), (49, v49), (50, v50)], s)
@[go_sem] theorem t12_13 : rc D b c12_13 ρ s = R12_13 b s (get ρ 10) (get ρ 12) (get ρ 49) (get ρ 50) := zr (by kernel_rfl)
@[go_sem] def R12_14 (_base : Nat) (s : St) (v10 v12 v16 v49 v50 : V) : OR :=
 obind (rf D f_frames_Frames_Take [v10, v16] s) fun x0 =>
 obind (vbin .neq x0.1 (.int .i64 0)) fun x1 =>
 some (.normal, [(10, v10), (12, v12), (49, v49), (50, v50), (56, x1)], x0.2)
@[go_sem] theorem t12_14 : rc D b c12_14 ρ s = R12_14 b s (get ρ 10) (get ρ 12) (get ρ 16) (get ρ 49) (get ρ 50) := zr (by kernel_rfl)
@[go_sem] def R12_15 (_base : Nat) (s : St) : OR :=
 some (.normal, [(8, .nilp), (9, (.int .i64 21))], s)
@[go_sem] theorem t12_15 : rc D b c12_15 ρ s = R12_15 b s := zr (by kernel_rfl)
@[go_sem] def R12_16 (_base : Nat) (s : St) (v10 v12 v49 v50 : V) : OR :=
 obind (vbin .add v50 (.int .i64 1)) fun x0 =>
 some (.normal, [(10, v10), (12, v12), (49, v49), (50, x0)], s)
@[go_sem] theorem t12_16 : rc D b c12_16 ρ s = R12_16 b s (get ρ 10) (get ρ 12) (get ρ 49) (get ρ 50) := zr (by kernel_rfl)
@[go_sem] def R12_17 (_base : Nat) (s : St) (v12 : V) : OR :=
 obind (rf D f_objects_Store_share [v12] s) fun x0 =>
 some (.normal, [(12, v12)], x0.2)
@[go_sem] theorem t12_17 : rc D b c12_17 ρ s = R12_17 b s (get ρ 12) := zr (by kernel_rfl)
@[go_sem] def R12_18 (_base : Nat) (s : St) (v12 : V) : OR :=
 some (.normal, [(8, v12), (9, (.int .i64 0))], s)
@[go_sem] theorem t12_18 : rc D b c12_18 ρ s = R12_18 b s (get ρ 12) := zr (by kernel_rfl)
@[go_sem] def R15_0 (_base : Nat) (s : St) (v0 : V) : OR :=
 let x0 : V := .ptr (St.fresh s false) [] 48; let s0 : St := St.new s false (.agg 48 (List.replicate 49 (.agg 42 [(.int .i64 0), (.int .i64 0), (.int .i64 0)])))
 some (.normal, [(0, v0), (2, x0)], s0)
@[go_sem] theorem t15_0 : rc D b c15_0 ρ s = R15_0 b s (get ρ 0) := zr (by kernel_rfl)
@[go_sem] def R15_1 (base : Nat) (s : St) (v0 v2 : V) : OR :=
 obind (setParts (List.replicate 49 (.agg 42 [(.int .i64 0), (.int .i64 0), (.int .i64 0)])) []) fun x0 =>
 let x1 : V := .ptr (St.fresh s false) [] 48; let s1 : St := St.new s false (.agg 48 (List.replicate 49 (.agg 42 [(.int .i64 0), (.int .i64 0), (.int .i64 0)])))
 obind (stv base s1 48 (.agg 48 x0) x1) fun s2 =>
 some (.normal, [(0, v0), (2, v2), (3, x1)], s2)
@[go_sem] theorem t15_1 : rc D b c15_1 ρ s = R15_1 b s (get ρ 0) (get ρ 2) := zr (by kernel_rfl)
@[go_sem] def R15_2 (_base : Nat) (s : St) (v0 v2 v3 : V) : OR :=
 some (.normal, [(0, v0), (2, v2), (3, v3), (4, (.int .i64 0))], s)
@[go_sem] theorem t15_2 : rc D b c15_2 ρ s = R15_2 b s (get ρ 0) (get ρ 2) (get ρ 3) := zr (by kernel_rfl)
@[go_sem] def R15_3 (_base : Nat) (s : St) (v0 v2 v3 v4 : V) : OR :=
 obind (vbin .lss v4 v0) fun x0 =>
 oguard x0 true (
   obind (vbin .lss v4 (.int .i64 49)) fun x1 =>
   some (.normal, [(0, v0), (2, v2), (3, v3), (4, v4), (12, x1)], s)) (
   some (.normal, [(0, v0), (2, v2), (3, v3), (4, v4), (12, (.bool false))], s)) (
   none)
@[go_sem] theorem t15_3 : rc D b c15_3 ρ s = R15_3 b s (get ρ 0) (get ρ 2) (get ρ 3) (get ρ 4) := zr (by kernel_rfl)
@[go_sem] def R15_4 (base : Nat) (s : St) (v0 v2 v3 v4 : V) : OR :=
 obind (vbin .rem v4 (.int .i64 4)) fun x0 =>
 obind (vbin .add (.int .i64 1) x0) fun x1 =>
 obind (vbin .add (.int .i64 20) v4) fun x2 =>
 obind (setParts [(.int .i64 0), (.int .i64 0), (.int .i64 0)] [(0, x1), (1, v4), (2, x2)]) fun x3 =>
 obind (iadv 48 49 42 v3 v4) fun x4 =>
 obind (stv base s 42 (.agg 42 x3) x4) fun s5 =>
 some (.normal, [(0, v0), (2, v2), (3, v3), (4, v4)], s5)
@[go_sem] theorem t15_4 : rc D b c15_4 ρ s = R15_4 b s (get ρ 0) (get ρ 2) (get ρ 3) (get ρ 4) := zr (by kernel_rfl)
@[go_sem] def R15_5 (_base : Nat) (s : St) (v0 v2 v3 v4 : V) : OR :=
 obind (vbin .add v4 (.int .i64 1)) fun x0 =>
 some (.normal, [(0, v0), (2, v2), (3, v3), (4, x0)], s)
@[go_sem] theorem t15_5 : rc D b c15_5 ρ s = R15_5 b s (get ρ 0) (get ρ 2) (get ρ 3) (get ρ 4) := zr (by kernel_rfl)
@[go_sem] def R15_6 (base : Nat) (s : St) (v2 v3 : V) : OR :=
 obind (ldv s 48 v3) fun x0 =>
 obind (stv base s 48 x0 v2) fun s1 =>
 some (.normal, [(2, v2)], s1)
@[go_sem] theorem t15_6 : rc D b c15_6 ρ s = R15_6 b s (get ρ 2) (get ρ 3) := zr (by kernel_rfl)
@[go_sem] def R16_0 (_base : Nat) (s : St) : OR :=
 let x0 : V := .ptr (St.fresh s false) [] 50; let s0 : St := St.new s false (.agg 50 (List.replicate 8 (.int .i64 0)))
 some (.normal, [(0, x0)], s0)
@[go_sem] theorem t16_0 : rc D b c16_0 ρ s = R16_0 b s := zr (by kernel_rfl)
@[go_sem] def R16_1 (base : Nat) (s : St) (v0 : V) : OR :=
 obind (setParts (List.replicate 8 (.int .i64 0)) []) fun x0 =>
 let x1 : V := .ptr (St.fresh s false) [] 50; let s1 : St := St.new s false (.agg 50 (List.replicate 8 (.int .i64 0)))
 obind (stv base s1 50 (.agg 50 x0) x1) fun s2 =>
 some (.normal, [(0, v0), (1, x1)], s2)
@[go_sem] theorem t16_1 : rc D b c16_1 ρ s = R16_1 b s (get ρ 0) := zr (by kernel_rfl)
@[go_sem] def R16_2 (_base : Nat) (s : St) (v0 v1 : V) : OR :=
 some (.normal, [(0, v0), (1, v1), (2, (.int .i64 0))], s)
@[go_sem] theorem t16_2 : rc D b c16_2 ρ s = R16_2 b s (get ρ 0) (get ρ 1) := zr (by kernel_rfl)
@[go_sem] def R16_3 (_base : Nat) (s : St) (v0 v1 v2 : V) : OR :=
 obind (vbin .lss v2 (.int .i64 8)) fun x0 =>
 some (.normal, [(0, v0), (1, v1), (2, v2), (5, x0)], s)
@[go_sem] theorem t16_3 : rc D b c16_3 ρ s = R16_3 b s (get ρ 0) (get ρ 1) (get ρ 2) := zr (by kernel_rfl)
@[go_sem] def R16_4 (base : Nat) (s : St) (v0 v1 v2 : V) : OR :=
 obind (vbin .add (.int .i64 10) v2) fun x0 =>
 obind (iadv 50 8 10 v1 v2) fun x1 =>
 obind (stv base s 10 x0 x1) fun s2 =>
 some (.normal, [(0, v0), (1, v1), (2, v2)], s2)
@[go_sem] theorem t16_4 : rc D b c16_4 ρ s = R16_4 b s (get ρ 0) (get ρ 1) (get ρ 2) := zr (by kernel_rfl)
@[go_sem] def R16_5 (_base : Nat) (s : St) (v0 v1 v2 : V) : OR :=
 obind (vbin .add v2 (.int .i64 1)) fun x0 =>
 some (.normal, [(0, v0), (1, v1), (2, x0)], s)
@[go_sem] theorem t16_5 : rc D b c16_5 ρ s = R16_5 b s (get ρ 0) (get ρ 1) (get ρ 2) := zr (by kernel_rfl)
@[go_sem] def R16_6 (base : Nat) (s : St) (v0 v1 : V) : OR :=
 obind (ldv s 50 v1) fun x0 =>
 obind (stv base s 50 x0 v0) fun s1 =>
 some (.normal, [(0, v0)], s1)
@[go_sem] theorem t16_6 : rc D b c16_6 ρ s = R16_6 b s (get ρ 0) (get ρ 1) := zr (by kernel_rfl)
@[go_sem] def R17_0 (_base : Nat) (s : St) (v0 v1 : V) : OR :=
 some (.normal, [(0, v0), (1, v1)], s)
@[go_sem] theorem t17_0 : rc D b c17_0 ρ s = R17_0 b s (get ρ 0) (get ρ 1) := zr (by kernel_rfl)
@[go_sem] def R17_1 (_base : Nat) (s : St) (v0 v1 : V) : OR :=
 obind (vbin .lss v0 (.int .i64 0)) fun x0 =>
 some (.normal, [(0, v0), (1, v1), (6, x0)], s)
@[go_sem] theorem t17_1 : rc D b c17_1 ρ s = R17_1 b s (get ρ 0) (get ρ 1) := zr (by kernel_rfl)
@[go_sem] def R17_2 (_base : Nat) (s : St) (v0 v1 : V) : OR :=
 obind (vbin .add v0 (.int .i64 1)) fun x0 =>
 obind (vun .neg x0) fun x1 =>
 some (.normal, [(0, x1), (1, v1)], s)
@[go_sem] theorem t17_2 : rc D b c17_2 ρ s = R17_2 b s (get ρ 0) (get ρ 1) := zr (by kernel_rfl)
@[go_sem] def R17_3 (_base : Nat) (s : St) (v0 v1 : V) : OR :=
 obind (vbin .rem v0 v1) fun x0 =>
 some (.normal, [(4, x0)], s)
@[go_sem] theorem t17_3 : rc D b c17_3 ρ s = R17_3 b s (get ρ 0) (get ρ 1) := zr (by kernel_rfl)
@[go_sem] def R18_0 (_base : Nat) (s : St) (v0 : V) : OR :=
 some (.normal, [(0, v0)], s)
@[go_sem] theorem t18_0 : rc D b c18_0 ρ s = R18_0 b s (get ρ 0) := zr (by kernel_rfl)
@[go_sem] def R18_1 (_base : Nat) (s : St) (v0 : V) : OR :=
 obind (nilv v0) fun x0 =>
 obind (fadv 43 1 1 x0) fun x1 =>
 obind (ldv s 1 x1) fun x2 =>
 obind (rf D f_frames_Frames_Left [x2] s) fun x3 =>
 some (.normal, [(2, x3.1)], x3.2)
@[go_sem] theorem t18_1 : rc D b c18_1 ρ s = R18_1 b s (get ρ 0) := zr (by kernel_rfl)
@[go_sem] def R19_0 (_base : Nat) (s : St) (v0 v1 v2 v3 : V) : OR :=
 some (.normal, [(0, v0), (1, v1), (2, v2), (3, v3)], s)
@[go_sem] theorem t19_0 : rc D b c19_0 ρ s = R19_0 b s (get ρ 0) (get ρ 1) (get ρ 2) (get ρ 3) := zr (by kernel_rfl)
@[go_sem] def R19_1 (_base : Nat) (s : St) (v0 v1 v2 v3 : V) : OR :=
 obind (rf D f_objects_Store_is [v0, v1] s) fun x0 =>
 some (.normal, [(0, v0), (1, v1), (2, v2), (3, v3), (9, x0.1)], x0.2)
@[go_sem] theorem t19_1 : rc D b c19_1 ρ s = R19_1 b s (get ρ 0) (get ρ 1) (get ρ 2) (get ρ 3) := zr (by kernel_rfl)
@[go_sem] def R19_2 (_base : Nat) (s : St) (v0 v1 v2 v3 v9 : V) : OR :=
 obind (vbin .eql v9 (.int .i64 1)) fun x0 =>
 some (.normal, [(0, v0), (1, v1), (2, v2), (3, v3), (9, v9), (15, x0)], s)
@[go_sem] theorem t19_2 : rc D b c19_2 ρ s = R19_2 b s (get ρ 0) (get ρ 1) (get ρ 2) (get ρ 3) (get ρ 9) := zr (by kernel_rfl)
@[go_sem] def R19_3 (_base : Nat) (s : St) (v0 v1 v2 v3 v9 : V) : OR :=
 obind (vbin .lss v2 (.int .i64 0)) fun x0 =>
 some (.normal, [(0, v0), (1, v1), (2, v2), (3, v3), (9, v9), (15, x0)], s)
@[go_sem] theorem t19_3 : rc D b c19_3 ρ s = R19_3 b s (get ρ 0) (get ρ 1) (get ρ 2) (get ρ 3) (get ρ 9) := zr (by kernel_rfl)
@[go_sem] def R19_4 (_base : Nat) (s : St) (v0 v1 v2 v3 v9 : V) : OR :=
 obind (vbin .geq v2 (.int .i64 8)) fun x0 =>
 some (.normal, [(0, v0), (1, v1), (2, v2), (3, v3), (9, v9), (15, x0)], s)
@[go_sem] theorem t19_4 : rc D b c19_4 ρ s = R19_4 b s (get ρ 0) (get ρ 1) (get ρ 2) (get ρ 3) (get ρ 9) := zr (by kernel_rfl)
@[go_sem] def R19_5 (_base : Nat) (s : St) : OR :=
 some (.normal, [(8, (.int .i64 1))], s)
@[go_sem] theorem t19_5 : rc D b c19_5 ρ s = R19_5 b s := zr (by kernel_rfl)
@[go_sem] def R19_6 (_base : Nat) (s : St) (v0 v1 v2 v3 v9 : V) : OR :=
 obind (vbin .neq v9 (.int .i64 0)) fun x0 =>
 some (.normal, [(0, v0), (1, v1), (2, v2), (3, v3), (9, v9), (22, x0)], s)
@[go_sem] theorem t19_6 : rc D b c19_6 ρ s = R19_6 b s (get ρ 0) (get ρ 1) (get ρ 2) (get ρ 3) (get ρ 9) := zr (by kernel_rfl)
@[go_sem] def R19_7 (_base : Nat) (s : St) (v9 : V) : OR :=
 some (.normal, [(8, v9)], s)
@[go_sem] theorem t19_7 : rc D b c19_7 ρ s = R19_7 b s (get ρ 9) := zr (by kernel_rfl)
@[go_sem] def R19_8 (_base : Nat) (s : St) (v0 v1 v2 v3 : V) : OR :=
 obind (rf D f_objects_Store_own [v0, v1] s) fun x0 =>
 some (.normal, [(0, v0), (1, v1), (2, v2), (3, v3), (26, x0.1)], x0.2)
@[go_sem] theorem t19_8 : rc D b c19_8 ρ s = R19_8 b s (get ρ 0) (get ρ 1) (get ρ 2) (get ρ 3) := zr (by kernel_rfl)
@[go_sem] def R19_9 (_base : Nat) (s : St) (v0 v1 v2 v3 : V) : OR :=
 obind (nilv v0) fun x0 =>
 obind (fadv 43 0 1 x0) fun x1 =>
 obind (ldv s 1 x1) fun x2 =>
 obind (nilv v0) fun x3 =>
 obind (fadv 43 2 48 x3) fun x4 =>
 obind (iadv 48 49 42 x4 v1) fun x5 =>
 obind (fadv 42 2 10 x5) fun x6 =>
 obind (ldv s 10 x6) fun x7 =>
 obind (rf D f_nvm_Memory_Store [x2, x7, v2, v3] s) fun x8 =>
 some (.normal, [(8, x8.1)], x8.2)
@[go_sem] theorem t19_9 : rc D b c19_9 ρ s = R19_9 b s (get ρ 0) (get ρ 1) (get ρ 2) (get ρ 3) := zd (by kernel_rfl)
@[go_sem] def R19_10 (_base : Nat) (s : St) (v0 v1 v2 v3 : V) : OR :=
 obind (nilv v0) fun x0 =>
 obind (fadv 43 1 1 x0) fun x1 =>
 obind (ldv s 1 x1) fun x2 =>
 obind (rf D f_frames_Frames_Left [x2] s) fun x3 =>
 obind (vbin .eql x3.1 (.int .i64 0)) fun x4 =>
 some (.normal, [(0, v0), (1, v1), (2, v2), (3, v3), (44, x4)], x3.2)
@[go_sem] theorem t19_10 : rc D b c19_10 ρ s = R19_10 b s (get ρ 0) (get ρ 1) (get ρ 2) (get ρ 3) := zr (by kernel_rfl)
@[go_sem] def R19_11 (_base : Nat) (s : St) : OR :=
 some (.normal, [(8, (.int .i64 10))], s)
@[go_sem] theorem t19_11 : rc D b c19_11 ρ s = R19_11 b s := zr (by kernel_rfl)
@[go_sem] def R19_12 (base : Nat) (s : St) (v0 v1 v2 v3 : V) : OR :=
 obind (nilv v0) fun x0 =>
 obind (fadv 43 0 1 x0) fun x1 =>
 obind (ldv s 1 x1) fun x2 =>
 obind (nilv v0) fun x3 =>
 obind (fadv 43 2 48 x3) fun x4 =>
 obind (iadv 48 49 42 x4 v1) fun x5 =>
 obind (fadv 42 2 10 x5) fun x6 =>
 obind (ldv s 10 x6) fun x7 =>
 obind (pcallw D (pcut base [x2, x7]) base f_nvm_Memory_Load [x2, x7] s) fun x8 =>
 obind (extv 0 x8) fun x9 =>
 obind (extv 1 x8) fun x10 =>
 let x11 : V := .ptr (St.fresh s false) [] 24; let s11 : St := St.new s false (.agg 24 (List.replicate 8 (.int .u64 0)))
 obind (stv base s11 24 x9 x11) fun s12 =>
 some (.normal, [(0, v0), (1, v1), (2, v2), (3, v3), (9, x10), (10, x11)], s12)
@[go_sem] theorem t19_12 : rc D b c19_12 ρ s = R19_12 b s (get ρ 0) (get ρ 1) (get ρ 2) (get ρ 3) := zd (by kernel_rfl)
@[go_sem] def R19_13 (_base : Nat) (s : St) (v0 v1 v2 v3 v9 v10 : V) : OR :=
 obind (vbin .neq v9 (.int .i64 0)) fun x0 =>
 some (.normal, [(0, v0), (1, v1), (2, v2), (3, v3), (9, v9), (10, v10), (67, x0)], s)
@[go_sem] theorem t19_13 : rc D b c19_13 ρ s = R19_13 b s (get ρ 0) (get ρ 1) (get ρ 2) (get ρ 3) (get ρ 9) (get ρ 10) := zr (by kernel_rfl)
@[go_sem] def R19_14 (_base : Nat) (s : St) (v9 : V) : OR :=
 some (.normal, [(8, v9)], s)
@[go_sem] theorem t19_14 : rc D b c19_14 ρ s = R19_14 b s (get ρ 9) := zr (by kernel_rfl)
@[go_sem] def R19_15 (base : Nat) (s : St) (v0 v1 v2 v3 v10 : V) : OR :=
 obind (iadv 24 8 18 v10 v2) fun x0 =>
 obind (stv base s 18 v3 x0) fun s1 =>
 some (.normal, [(0, v0), (1, v1), (10, v10)], s1)
@[go_sem] theorem t19_15 : rc D b c19_15 ρ s = R19_15 b s (get ρ 0) (get ρ 1) (get ρ 2) (get ρ 3) (get ρ 10) := zr (by kernel_rfl)
@[go_sem] def R19_16 (_base : Nat) (s : St) (v0 v1 v10 : V) : OR :=
 obind (ldv s 24 v10) fun x0 =>
 obind (rf D f_objects_Store_lay [v0, x0] s) fun x1 =>
 obind (extv 0 x1.1) fun x2 =>
 obind (extv 1 x1.1) fun x3 =>
 some (.normal, [(0, v0), (1, v1), (9, x3), (11, x2)], x1.2)
@[go_sem] theorem t19_16 : rc D b c19_16 ρ s = R19_16 b s (get ρ 0) (get ρ 1) (get ρ 10) := zr (by kernel_rfl)
@[go_sem] def R19_17 (_base : Nat) (s : St) (v0 v1 v9 v11 : V) : OR :=
 obind (vbin .neq v9 (.int .i64 0)) fun x0 =>
 some (.normal, [(0, v0), (1, v1), (9, v9), (11, v11), (79, x0)], s)
@[go_sem] theorem t19_17 : rc D b c19_17 ρ s = R19_17 b s (get ρ 0) (get ρ 1) (get ρ 9) (get ρ 11) := zr (by kernel_rfl)
@[go_sem] def R19_18 (_base : Nat) (s : St) (v9 : V) : OR :=
 some (.normal, [(8, v9)], s)
@[go_sem] theorem t19_18 : rc D b c19_18 ρ s = R19_18 b s (get ρ 9) := zr (by kernel_rfl)
@[go_sem] def R19_19 (base : Nat) (s : St) (v0 v1 v11 : V) : OR :=
 obind (nilv v0) fun x0 =>
 obind (fadv 43 2 48 x0) fun x1 =>
 obind (iadv 48 49 42 x1 v1) fun x2 =>
 obind (fadv 42 2 10 x2) fun x3 =>
 obind (stv base s 10 v11 x3) fun s4 =>
 some (.normal, [], s4)
@[go_sem] theorem t19_19 : rc D b c19_19 ρ s = R19_19 b s (get ρ 0) (get ρ 1) (get ρ 11) := zr (by kernel_rfl)
@[go_sem] def R19_20 (_base : Nat) (s : St) : OR :=
 some (.normal, [(8, (.int .i64 0))], s)
@[go_sem] theorem t19_20 : rc D b c19_20 ρ s = R19_20 b s := zr (by kernel_rfl)
@[go_sem] def R20_0 (_base : Nat) (s : St) (v0 v1 : V) : OR :=
 let x0 : V := .ptr (St.fresh s false) [] 26; let s0 : St := St.new s false (.agg 26 [(.int .i64 0), (.int .i64 0), (.agg 24 (List.replicate 8 (.int .u64 0)))])
 some (.normal, [(0, v0), (1, v1), (4, x0)], s0)
@[go_sem] theorem t20_0 : rc D b c20_0 ρ s = R20_0 b s (get ρ 0) (get ρ 1) := zr (by kernel_rfl)
@[go_sem] def R20_1 (_base : Nat) (s : St) (v0 v1 v4 : V) : OR :=
 obind (rf D f_objects_Store_is [v0, v1] s) fun x0 =>
 some (.normal, [(0, v0), (1, v1), (4, v4), (6, x0.1)], x0.2)
@[go_sem] theorem t20_1 : rc D b c20_1 ρ s = R20_1 b s (get ρ 0) (get ρ 1) (get ρ 4) := zr (by kernel_rfl)
@[go_sem] def R20_2 (_base : Nat) (s : St) (v0 v1 v4 v6 : V) : OR :=
 obind (vbin .neq v6 (.int .i64 0)) fun x0 =>
 some (.normal, [(0, v0), (1, v1), (4, v4), (6, v6), (14, x0)], s)
@[go_sem] theorem t20_2 : rc D b c20_2 ρ s = R20_2 b s (get ρ 0) (get ρ 1) (get ρ 4) (get ρ 6) := zr (by kernel_rfl)
@[go_sem] def R20_3 (base : Nat) (s : St) (v4 v6 : V) : OR :=
 obind (setParts [(.int .i64 0), (.int .i64 0), (.agg 24 (List.replicate 8 (.int .u64 0)))] []) fun x0 =>
 obind (stv base s 26 (.agg 26 x0) v4) fun s1 =>
 some (.normal, [(4, v4), (5, v6)], s1)
@[go_sem] theorem t20_3 : rc D b c20_3 ρ s = R20_3 b s (get ρ 4) (get ρ 6) := zr (by kernel_rfl)
@[go_sem] def R20_4 (base : Nat) (s : St) (v0 v1 v4 : V) : OR :=
 obind (nilv v0) fun x0 =>
 obind (fadv 43 2 48 x0) fun x1 =>
 obind (iadv 48 49 42 x1 v1) fun x2 =>
 obind (ldv s 42 x2) fun x3 =>
 let x4 : V := .ptr (St.fresh s false) [] 42; let s4 : St := St.new s false (.agg 42 [(.int .i64 0), (.int .i64 0), (.int .i64 0)])
 obind (stv base s4 42 x3 x4) fun s5 =>
 some (.normal, [(0, v0), (4, v4), (7, x4)], s5)
@[go_sem] theorem t20_4 : rc D b c20_4 ρ s = R20_4 b s (get ρ 0) (get ρ 1) (get ρ 4) := zr (by kernel_rfl)
@[go_sem] def R20_5 (base : Nat) (s : St) (v0 v4 v7 : V) : OR :=
 obind (nilv v0) fun x0 =>
 obind (fadv 43 0 1 x0) fun x1 =>
 obind (ldv s 1 x1) fun x2 =>
 obind (fadv 42 2 10 v7) fun x3 =>
 obind (ldv s 10 x3) fun x4 =>
 obind (pcallw D (pcut base [x2, x4]) base f_nvm_Memory_Load [x2, x4] s) fun x5 =>
 obind (extv 0 x5) fun x6 =>
 obind (extv 1 x5) fun x7 =>
 let x8 : V := .ptr (St.fresh s false) [] 24; let s8 : St := St.new s false (.agg 24 (List.replicate 8 (.int .u64 0)))
 obind (stv base s8 24 x6 x8) fun s9 =>
 some (.normal, [(4, v4), (7, v7), (8, x8), (9, x7)], s9)
@[go_sem] theorem t20_5 : rc D b c20_5 ρ s = R20_5 b s (get ρ 0) (get ρ 4) (get ρ 7) := zd (by kernel_rfl)
@[go_sem] def R20_6 (_base : Nat) (s : St) (v4 v7 v8 v9 : V) : OR :=
 obind (vbin .neq v9 (.int .i64 0)) fun x0 =>
 some (.normal, [(4, v4), (7, v7), (8, v8), (9, v9), (34, x0)], s)
@[go_sem] theorem t20_6 : rc D b c20_6 ρ s = R20_6 b s (get ρ 4) (get ρ 7) (get ρ 8) (get ρ 9) := zr (by kernel_rfl)
@[go_sem] def R20_7 (base : Nat) (s : St) (v4 v9 : V) : OR :=
 obind (setParts [(.int .i64 0), (.int .i64 0), (.agg 24 (List.replicate 8 (.int .u64 0)))] []) fun x0 =>
 obind (stv base s 26 (.agg 26 x0) v4) fun s1 =>
 some (.normal, [(4, v4), (5, v9)], s1)
@[go_sem] theorem t20_7 : rc D b c20_7 ρ s = R20_7 b s (get ρ 4) (get ρ 9) := zr (by kernel_rfl)
@[go_sem] def R20_8 (base : Nat) (s : St) (v4 v7 v8 : V) : OR :=
 obind (fadv 42 0 10 v7) fun x0 =>
 obind (ldv s 10 x0) fun x1 =>
 obind (fadv 42 1 10 v7) fun x2 =>
 obind (ldv s 10 x2) fun x3 =>
 obind (ldv s 24 v8) fun x4 =>
 obind (setParts [(.int .i64 0), (.int .i64 0), (.agg 24 (List.replicate 8 (.int .u64 0)))] [(0, x1), (1, x3), (2, x4)]) fun x5 =>
 obind (stv base s 26 (.agg 26 x5) v4) fun s6 =>
 some (.normal, [(4, v4), (5, (.int .i64 0))], s6)
@[go_sem] theorem t20_8 : rc D b c20_8 ρ s = R20_8 b s (get ρ 4) (get ρ 7) (get ρ 8) := zr (by kernel_rfl)
@[go_sem] def R21_0 (_base : Nat) (s : St) (v0 : V) : OR :=
 let x0 : V := .ptr (St.fresh s false) [] 48; let s0 : St := St.new s false (.agg 48 (List.replicate 49 (.agg 42 [(.int .i64 0), (.int .i64 0), (.int .i64 0)])))
 some (.normal, [(0, v0), (2, x0)], s0)
@[go_sem] theorem t21_0 : rc D b c21_0 ρ s = R21_0 b s (get ρ 0) := zr (by kernel_rfl)
@[go_sem] def R21_1 (base : Nat) (s : St) (v0 v2 : V) : OR :=
 obind (nilv v0) fun x0 =>
 obind (fadv 43 2 48 x0) fun x1 =>
 obind (ldv s 48 x1) fun x2 =>
 obind (stv base s 48 x2 v2) fun s3 =>
 some (.normal, [(2, v2)], s3)
@[go_sem] theorem t21_1 : rc D b c21_1 ρ s = R21_1 b s (get ρ 0) (get ρ 2) := zr (by kernel_rfl)
@[go_sem] def R22_0 (_base : Nat) (s : St) (v0 : V) : OR :=
 some (.normal, [(0, v0)], s)
@[go_sem] theorem t22_0 : rc D b c22_0 ρ s = R22_0 b s (get ρ 0) := zr (by kernel_rfl)
@[go_sem] def R22_1 (_base : Nat) (s : St) (v0 : V) : OR :=
 obind (nilv v0) fun x0 =>
 obind (fadv 43 6 0 x0) fun x1 =>
 obind (ldv s 0 x1) fun x2 =>
 some (.normal, [(0, v0), (6, x2)], s)
@[go_sem] theorem t22_1 : rc D b c22_1 ρ s = R22_1 b s (get ρ 0) := zr (by kernel_rfl)
@[go_sem] def R22_2 (_base : Nat) (s : St) : OR :=
 some (.normal, [(2, (.int .i64 3))], s)
@[go_sem] theorem t22_2 : rc D b c22_2 ρ s = R22_2 b s := zr (by kernel_rfl)
@[go_sem] def R22_3 (base : Nat) (s : St) (v0 : V) : OR :=
 obind (nilv v0) fun x0 =>
 obind (fadv 43 2 48 x0) fun x1 =>
 obind (ldv s 48 x1) fun x2 =>
 obind (nilv v0) fun x3 =>
 obind (fadv 43 5 48 x3) fun x4 =>
 obind (stv base s 48 x2 x4) fun s5 =>
 obind (nilv v0) fun x6 =>
 obind (fadv 43 6 0 x6) fun x7 =>
 obind (stv base s5 0 (.bool true) x7) fun s8 =>
 some (.normal, [(0, v0)], s8)
@[go_sem] theorem t22_3 : rc D b c22_3 ρ s = R22_3 b s (get ρ 0) := zr (by kernel_rfl)
@[go_sem] def R22_4 (_base : Nat) (s : St) (v0 : V) : OR :=
 obind (rf D f_objects_Store_share [v0] s) fun x0 =>
 some (.normal, [], x0.2)
@[go_sem] theorem t22_4 : rc D b c22_4 ρ s = R22_4 b s (get ρ 0) := zr (by kernel_rfl)
@[go_sem] def R22_5 (_base : Nat) (s : St) : OR :=
 some (.normal, [(2, (.int .i64 0))], s)
@[go_sem] theorem t22_5 : rc D b c22_5 ρ s = R22_5 b s := zr (by kernel_rfl)
@[go_sem] def R23_0 (_base : Nat) (s : St) (v0 : V) : OR :=
 some (.normal, [(0, v0)], s)
@[go_sem] theorem t23_0 : rc D b c23_0 ρ s = R23_0 b s (get ρ 0) := zr (by kernel_rfl)
@[go_sem] def R23_1 (_base : Nat) (s : St) (v0 : V) : OR :=
 obind (nilv v0) fun x0 =>
 obind (fadv 43 1 1 x0) fun x1 =>
 obind (ldv s 1 x1) fun x2 =>
 obind (rf D f_frames_Frames_Alloc [x2] s) fun x3 =>
 obind (extv 0 x3.1) fun x4 =>
 obind (extv 1 x3.1) fun x5 =>
 some (.normal, [(2, x4), (3, x5)], x3.2)
@[go_sem] theorem t23_1 : rc D b c23_1 ρ s = R23_1 b s (get ρ 0) := zr (by kernel_rfl)
@[go_sem] def R25_0 (_base : Nat) (s : St) (v0 v1 : V) : OR :=
 some (.normal, [(0, v0), (1, v1)], s)
@[go_sem] theorem t25_0 : rc D b c25_0 ρ s = R25_0 b s (get ρ 0) (get ρ 1) := zr (by kernel_rfl)
@[go_sem] def R25_1 (_base : Nat) (s : St) (v0 v1 : V) : OR :=
 obind (rf D f_objects_Store_Next [v0, v1] s) fun x0 =>
 obind (extv 0 x0.1) fun x1 =>
 obind (extv 1 x0.1) fun x2 =>
 obind (extv 2 x0.1) fun x3 =>
 some (.normal, [(0, v0), (1, v1), (6, x1), (7, x2), (8, x3)], x0.2)
@[go_sem] theorem t25_1 : rc D b c25_1 ρ s = R25_1 b s (get ρ 0) (get ρ 1) := zr (by kernel_rfl)
@[go_sem] def R25_2 (_base : Nat) (s : St) (v0 v1 v6 v7 v8 : V) : OR :=
 obind (vbin .neq v8 (.int .i64 0)) fun x0 =>
 some (.normal, [(0, v0), (1, v1), (6, v6), (7, v7), (8, v8), (18, x0)], s)
@[go_sem] theorem t25_2 : rc D b c25_2 ρ s = R25_2 b s (get ρ 0) (get ρ 1) (get ρ 6) (get ρ 7) (get ρ 8) := zr (by kernel_rfl)
@[go_sem] def R25_3 (_base : Nat) (s : St) (v8 : V) : OR :=
 some (.normal, [(4, (.int .i64 0)), (5, v8)], s)
@[go_sem] theorem t25_3 : rc D b c25_3 ρ s = R25_3 b s (get ρ 8) := zr (by kernel_rfl)
@[go_sem] def R25_4 (_base : Nat) (s : St) (v0 v1 v6 v7 : V) : OR :=
 obind (setParts (List.replicate 8 (.int .u64 0)) []) fun x0 =>
 obind (rf D f_objects_Store_lay [v0, (.agg 24 x0)] s) fun x1 =>
 obind (extv 0 x1.1) fun x2 =>
 obind (extv 1 x1.1) fun x3 =>
 some (.normal, [(0, v0), (1, v1), (6, v6), (7, v7), (8, x3), (9, x2)], x1.2)
@[go_sem] theorem t25_4 : rc D b c25_4 ρ s = R25_4 b s (get ρ 0) (get ρ 1) (get ρ 6) (get ρ 7) := zr (by kernel_rfl)
@[go_sem] def R25_5 (_base : Nat) (s : St) (v0 v1 v6 v7 v8 v9 : V) : OR :=
 obind (vbin .neq v8 (.int .i64 0)) fun x0 =>
 some (.normal, [(0, v0), (1, v1), (6, v6), (7, v7), (8, v8), (9, v9), (27, x0)], s)
@[go_sem] theorem t25_5 : rc D b c25_5 ρ s = R25_5 b s (get ρ 0) (get ρ 1) (get ρ 6) (get ρ 7) (get ρ 8) (get ρ 9) := zr (by kernel_rfl)
@[go_sem] def R25_6 (_base : Nat) (s : St) (v8 : V) : OR :=
 some (.normal, [(4, (.int .i64 0)), (5, v8)], s)
@[go_sem] theorem t25_6 : rc D b c25_6 ρ s = R25_6 b s (get ρ 8) := zr (by kernel_rfl)
@[go_sem] def R25_7 (base : Nat) (s : St) (v0 v1 v6 v7 v9 : V) : OR :=
 obind (setParts [(.int .i64 0), (.int .i64 0), (.int .i64 0)] [(0, v1), (1, v7), (2, v9)]) fun x0 =>
 obind (nilv v0) fun x1 =>
 obind (fadv 43 2 48 x1) fun x2 =>
 obind (iadv 48 49 42 x2 v6) fun x3 =>
 obind (stv base s 42 (.agg 42 x0) x3) fun s4 =>
 some (.normal, [(6, v6)], s4)
@[go_sem] theorem t25_7 : rc D b c25_7 ρ s = R25_7 b s (get ρ 0) (get ρ 1) (get ρ 6) (get ρ 7) (get ρ 9) := zr (by kernel_rfl)
@[go_sem] def R25_8 (_base : Nat) (s : St) (v6 : V) : OR :=
 some (.normal, [(4, v6), (5, (.int .i64 0))], s)
@[go_sem] theorem t25_8 : rc D b c25_8 ρ s = R25_8 b s (get ρ 6) := zr (by kernel_rfl)
@[go_sem] def R26_0 (_base : Nat) (s : St) (v0 v1 : V) : OR :=
 some (.normal, [(0, v0), (1, v1)], s)
@[go_sem] theorem t26_0 : rc D b c26_0 ρ s = R26_0 b s (get ρ 0) (get ρ 1) := zr (by kernel_rfl)
@[go_sem] def R26_1 (_base : Nat) (s : St) (v0 v1 : V) : OR :=
 obind (rf D f_objects_Store_is [v0, v1] s) fun x0 =>
 some (.normal, [(0, v0), (1, v1), (5, x0.1)], x0.2)
@[go_sem] theorem t26_1 : rc D b c26_1 ρ s = R26_1 b s (get ρ 0) (get ρ 1) := zr (by kernel_rfl)
@[go_sem] def R26_2 (_base : Nat) (s : St) (v0 v1 v5 : V) : OR :=
 obind (vbin .neq v5 (.int .i64 0)) fun x0 =>
 some (.normal, [(0, v0), (1, v1), (5, v5), (10, x0)], s)
@[go_sem] theorem t26_2 : rc D b c26_2 ρ s = R26_2 b s (get ρ 0) (get ρ 1) (get ρ 5) := zr (by kernel_rfl)
@[go_sem] def R26_3 (_base : Nat) (s : St) (v5 : V) : OR :=
 some (.normal, [(4, v5)], s)
@[go_sem] theorem t26_3 : rc D b c26_3 ρ s = R26_3 b s (get ρ 5) := zr (by kernel_rfl)
@[go_sem] def R26_4 (_base : Nat) (s : St) (v0 v1 : V) : OR :=
 obind (rf D f_objects_Store_own [v0, v1] s) fun x0 =>
 some (.normal, [(0, v0), (1, v1), (14, x0.1)], x0.2)
@[go_sem] theorem t26_4 : rc D b c26_4 ρ s = R26_4 b s (get ρ 0) (get ρ 1) := zr (by kernel_rfl)
@[go_sem] def R26_5 (_base : Nat) (s : St) (v0 v1 : V) : OR :=
 obind (nilv v0) fun x0 =>
 obind (fadv 43 1 1 x0) fun x1 =>
 obind (ldv s 1 x1) fun x2 =>
 obind (nilv v0) fun x3 =>
 obind (fadv 43 2 48 x3) fun x4 =>
 obind (iadv 48 49 42 x4 v1) fun x5 =>
 obind (fadv 42 2 10 x5) fun x6 =>
 obind (ldv s 10 x6) fun x7 =>
 obind (rf D f_frames_Frames_Free [x2, x7] s) fun x8 =>
 some (.normal, [(0, v0), (1, v1)], x8.2)
@[go_sem] theorem t26_5 : rc D b c26_5 ρ s = R26_5 b s (get ρ 0) (get ρ 1) := zd (by kernel_rfl)
@[go_sem] def R26_6 (base : Nat) (s : St) (v0 v1 : V) : OR :=
 obind (nilv v0) fun x0 =>
 obind (fadv 43 2 48 x0) fun x1 =>
 obind (iadv 48 49 42 x1 v1) fun x2 =>
 obind (ldv s 42 x2) fun x3 =>
 obind (pcallw D (pcut base [x3]) base f_entry_End [x3] s) fun x4 =>
 obind (extv 0 x4) fun x5 =>
 obind (extv 1 x4) fun _x6 =>
 obind (nilv v0) fun x7 =>
 obind (fadv 43 2 48 x7) fun x8 =>
 obind (iadv 48 49 42 x8 v1) fun x9 =>
 obind (stv base s 42 x5 x9) fun s10 =>
 some (.normal, [], s10)
@[go_sem] theorem t26_6 : rc D b c26_6 ρ s = R26_6 b s (get ρ 0) (get ρ 1) := zd (by kernel_rfl)
@[go_sem] def R26_7 (_base : Nat) (s : St) : OR :=
 some (.normal, [(4, (.int .i64 0))], s)
@[go_sem] theorem t26_7 : rc D b c26_7 ρ s = R26_7 b s := zr (by kernel_rfl)
@[go_sem] def R27_0 (_base : Nat) (s : St) (v0 v1 : V) : OR :=
 let x0 : V := .ptr (St.fresh s false) [] 24; let s0 : St := St.new s false (.agg 24 (List.replicate 8 (.int .u64 0)))
 some (.normal, [(0, v0), (1, v1), (4, x0)], s0)
@[go_sem] theorem t27_0 : rc D b c27_0 ρ s = R27_0 b s (get ρ 0) (get ρ 1) := zr (by kernel_rfl)
@[go_sem] def R27_1 (_base : Nat) (s : St) (v0 v1 v4 : V) : OR :=
 obind (rf D f_nvm_Memory_at [v0, v1] s) fun x0 =>
 some (.normal, [(0, v0), (4, v4), (6, x0.1)], x0.2)
@[go_sem] theorem t27_1 : rc D b c27_1 ρ s = R27_1 b s (get ρ 0) (get ρ 1) (get ρ 4) := zr (by kernel_rfl)
@[go_sem] def R27_2 (_base : Nat) (s : St) (v0 v4 v6 : V) : OR :=
 obind (eqv false 1 v6 .nilp) fun x0 =>
 some (.normal, [(0, v0), (4, v4), (6, v6), (10, x0)], s)
@[go_sem] theorem t27_2 : rc D b c27_2 ρ s = R27_2 b s (get ρ 0) (get ρ 4) (get ρ 6) := zr (by kernel_rfl)
@[go_sem] def R27_3 (base : Nat) (s : St) (v4 : V) : OR :=
 obind (setParts (List.replicate 8 (.int .u64 0)) []) fun x0 =>
 obind (stv base s 24 (.agg 24 x0) v4) fun s1 =>
 some (.normal, [(4, v4), (5, (.int .i64 1))], s1)
@[go_sem] theorem t27_3 : rc D b c27_3 ρ s = R27_3 b s (get ρ 4) := zr (by kernel_rfl)
@[go_sem] def R27_4 (_base : Nat) (s : St) (v0 v4 v6 : V) : OR :=
 obind (nilv v0) fun x0 =>
 obind (fadv 59 1 0 x0) fun x1 =>
 obind (ldv s 0 x1) fun x2 =>
 some (.normal, [(4, v4), (6, v6), (14, x2)], s)
@[go_sem] theorem t27_4 : rc D b c27_4 ρ s = R27_4 b s (get ρ 0) (get ρ 4) (get ρ 6) := zr (by kernel_rfl)
@[go_sem] def R27_5 (base : Nat) (s : St) (v4 : V) : OR :=
 obind (setParts (List.replicate 8 (.int .u64 0)) []) fun x0 =>
 obind (stv base s 24 (.agg 24 x0) v4) fun s1 =>
 some (.normal, [(4, v4), (5, (.int .i64 4))], s1)
@[go_sem] theorem t27_5 : rc D b c27_5 ρ s = R27_5 b s (get ρ 4) := zr (by kernel_rfl)
@[go_sem] def R27_6 (base : Nat) (s : St) (v4 v6 : V) : OR :=
 obind (nilv v6) fun x0 =>
 obind (fadv 55 0 24 x0) fun x1 =>
 obind (ldv s 24 x1) fun x2 =>
 obind (stv base s 24 x2 v4) fun s3 =>
 some (.normal, [(4, v4), (5, (.int .i64 0))], s3)
@[go_sem] theorem t27_6 : rc D b c27_6 ρ s = R27_6 b s (get ρ 4) (get ρ 6) := zr (by kernel_rfl)
@[go_sem] def R28_0 (_base : Nat) (s : St) (v0 : V) : OR :=
 let x0 : V := .ptr (St.fresh s false) [] 48; let s0 : St := St.new s false (.agg 48 (List.replicate 49 (.agg 42 [(.int .i64 0), (.int .i64 0), (.int .i64 0)])))
 let x1 : V := .ptr (St.fresh s0 false) [] 50; let s1 : St := St.new s0 false (.agg 50 (List.replicate 8 (.int .i64 0)))
 some (.normal, [(0, v0), (2, x0), (3, x1)], s1)
@[go_sem] theorem t28_0 : rc D b c28_0 ρ s = R28_0 b s (get ρ 0) := zr (by kernel_rfl)
@[go_sem] def R28_1 (base : Nat) (s : St) (v0 v2 v3 : V) : OR :=
 obind (nilv v0) fun x0 =>
 obind (fadv 43 3 48 x0) fun x1 =>
 obind (ldv s 48 x1) fun x2 =>
 obind (nilv v0) fun x3 =>
 obind (fadv 43 4 50 x3) fun x4 =>
 obind (ldav s 50 x4 v0) fun x5 =>
 obind (stav base s 48 x2 v2 [v0]) fun s6 =>
 obind (stv base s6 50 x5 v3) fun s7 =>
 some (.normal, [(2, v2), (3, v3)], s7)
@[go_sem] theorem t28_1 : rc D b c28_1 ρ s = R28_1 b s (get ρ 0) (get ρ 2) (get ρ 3) := zd (by kernel_rfl)
@[go_sem] def R32_0 (_base : Nat) (s : St) (v0 v1 : V) : OR :=
 if V.ok v1 && mayNew false v1 then let x0 : V := .ptr (St.fresh s false) [] (V.tag v1); let s0 : St := St.new s false v1
 some (.normal, [(0, v0), (3, x0)], s0)
 else none
@[go_sem] theorem t32_0 : rc D b c32_0 ρ s = R32_0 b s (get ρ 0) (get ρ 1) := zr (by kernel_rfl)
@[go_sem] def R32_1 (_base : Nat) (s : St) (v0 v3 : V) : OR :=
 obind (nilv v0) fun x0 =>
 obind (fadv 43 6 0 x0) fun x1 =>
 obind (ldv s 0 x1) fun x2 =>
 obind (vun .not x2) fun x3 =>
 some (.normal, [(0, v0), (3, v3), (9, x3)], s)
@[go_sem] theorem t32_1 : rc D b c32_1 ρ s = R32_1 b s (get ρ 0) (get ρ 3) := zr (by kernel_rfl)
@[go_sem] def R32_2 (_base : Nat) (s : St) : OR :=
 some (.normal, [(4, (.int .i64 3))], s)
@[go_sem] theorem t32_2 : rc D b c32_2 ρ s = R32_2 b s := zr (by kernel_rfl)
@[go_sem] def R32_3 (base : Nat) (s : St) (v0 v3 : V) : OR :=
 obind (nilv v0) fun x0 =>
 obind (fadv 43 5 48 x0) fun x1 =>
 obind (ldv s 48 x1) fun x2 =>
 obind (ldv s 50 v3) fun x3 =>
 obind (nilv v0) fun x4 =>
 obind (fadv 43 3 48 x4) fun x5 =>
 obind (stav base s 48 x2 x5 [v3]) fun s6 =>
 obind (nilv v0) fun x7 =>
 obind (fadv 43 4 50 x7) fun x8 =>
 obind (stv base s6 50 x3 x8) fun s9 =>
 some (.normal, [(0, v0)], s9)
@[go_sem] theorem t32_3 : rc D b c32_3 ρ s = R32_3 b s (get ρ 0) (get ρ 3) := zd (by kernel_rfl)
@[go_sem] def R32_4 (_base : Nat) (s : St) (v0 : V) : OR :=
 obind (rf D f_objects_Store_unmark [v0] s) fun x0 =>
 some (.normal, [], x0.2)
@[go_sem] theorem t32_4 : rc D b c32_4 ρ s = R32_4 b s (get ρ 0) := zr (by kernel_rfl)
@[go_sem] def R32_5 (_base : Nat) (s : St) : OR :=
 some (.normal, [(4, (.int .i64 0))], s)
@[go_sem] theorem t32_5 : rc D b c32_5 ρ s = R32_5 b s := zr (by kernel_rfl)
@[go_sem] def R33_0 (_base : Nat) (s : St) (v0 : V) : OR :=
 some (.normal, [(0, v0)], s)
@[go_sem] theorem t33_0 : rc D b c33_0 ρ s = R33_0 b s (get ρ 0) := zr (by kernel_rfl)
@[go_sem] def R33_1 (_base : Nat) (s : St) (v0 : V) : OR :=
 obind (nilv v0) fun x0 =>
 obind (fadv 43 6 0 x0) fun x1 =>
 obind (ldv s 0 x1) fun x2 =>
 obind (vun .not x2) fun x3 =>
 some (.normal, [(0, v0), (7, x3)], s)
@[go_sem] theorem t33_1 : rc D b c33_1 ρ s = R33_1 b s (get ρ 0) := zr (by kernel_rfl)
@[go_sem] def R33_2 (_base : Nat) (s : St) : OR :=
 some (.normal, [(2, (.int .i64 3))], s)
@[go_sem] theorem t33_2 : rc D b c33_2 ρ s = R33_2 b s := zr (by kernel_rfl)
@[go_sem] def R33_3 (_base : Nat) (s : St) (v0 : V) : OR :=
 obind (rf D f_objects_Store_unmark [v0] s) fun x0 =>
 some (.normal, [], x0.2)
@[go_sem] theorem t33_3 : rc D b c33_3 ρ s = R33_3 b s (get ρ 0) := zr (by kernel_rfl)
@[go_sem] def R33_4 (_base : Nat) (s : St) : OR :=
 some (.normal, [(2, (.int .i64 0))], s)
@[go_sem] theorem t33_4 : rc D b c33_4 ρ s = R33_4 b s := zr (by kernel_rfl)
@[go_sem] def R34_0 (_base : Nat) (s : St) (v0 v1 : V) : OR :=
 some (.normal, [(0, v0), (1, v1)], s)
@[go_sem] theorem t34_0 : rc D b c34_0 ρ s = R34_0 b s (get ρ 0) (get ρ 1) := zr (by kernel_rfl)
@[go_sem] def R34_1 (_base : Nat) (s : St) (v0 v1 : V) : OR :=
 some (.normal, [(0, v0), (9, v1)], s)
@[go_sem] theorem t34_1 : rc D b c34_1 ρ s = R34_1 b s (get ρ 0) (get ρ 1) := zr (by kernel_rfl)
@[go_sem] def R34_2 (_base : Nat) (s : St) (v0 v9 : V) : OR :=
 obind (vbin .eql v9 (.int .i64 1)) fun x0 =>
 some (.normal, [(0, v0), (9, v9), (10, x0)], s)
@[go_sem] theorem t34_2 : rc D b c34_2 ρ s = R34_2 b s (get ρ 0) (get ρ 9) := zr (by kernel_rfl)
@[go_sem] def R34_3 (_base : Nat) (s : St) (v0 v9 : V) : OR :=
 obind (vbin .eql v9 (.int .i64 2)) fun x0 =>
 some (.normal, [(0, v0), (9, v9), (10, x0)], s)
@[go_sem] theorem t34_3 : rc D b c34_3 ρ s = R34_3 b s (get ρ 0) (get ρ 9) := zr (by kernel_rfl)
@[go_sem] def R34_4 (_base : Nat) (s : St) (v0 v9 : V) : OR :=
 obind (vbin .eql v9 (.int .i64 4)) fun x0 =>
 some (.normal, [(0, v0), (10, x0)], s)
@[go_sem] theorem t34_4 : rc D b c34_4 ρ s = R34_4 b s (get ρ 0) (get ρ 9) := zr (by kernel_rfl)
@[go_sem] def R34_5 (_base : Nat) (s : St) : OR :=
 some (.normal, [(4, (.int .i64 0)), (5, (.int .i64 0)), (6, (.int .i64 1))], s)
@[go_sem] theorem t34_5 : rc D b c34_5 ρ s = R34_5 b s := zr (by kernel_rfl)
@[go_sem] def R34_6 (_base : Nat) (s : St) (v0 : V) : OR :=
 obind (nilv v0) fun x0 =>
 obind (fadv 43 2 48 x0) fun x1 =>
 obind (ldv s 48 x1) fun x2 =>
 some (.normal, [(17, x2), (18, (.int .i64 0))], s)
@[go_sem] theorem t34_6 : rc D b c34_6 ρ s = R34_6 b s (get ρ 0) := zr (by kernel_rfl)
@[go_sem] def R34_7 (_base : Nat) (s : St) (v17 v18 : V) : OR :=
 obind (vbin .lss v18 (.int .i64 49)) fun x0 =>
 some (.normal, [(17, v17), (18, v18), (19, x0)], s)
@[go_sem] theorem t34_7 : rc D b c34_7 ρ s = R34_7 b s (get ρ 17) (get ρ 18) := zr (by kernel_rfl)
@[go_sem] def R34_8 (base : Nat) (s : St) (v17 v18 : V) : OR :=
 obind (idxv 48 49 v17 v18) fun x0 =>
 let x1 : V := .ptr (St.fresh s false) [] 42; let s1 : St := St.new s false (.agg 42 [(.int .i64 0), (.int .i64 0), (.int .i64 0)])
 obind (stv base s1 42 x0 x1) fun s2 =>
 some (.normal, [(7, v18), (8, x1), (17, v17), (18, v18)], s2)
@[go_sem] theorem t34_8 : rc D b c34_8 ρ s = R34_8 b s (get ρ 17) (get ρ 18) := zr (by kernel_rfl)
@[go_sem] def R34_9 (_base : Nat) (s : St) (v7 v8 v17 v18 : V) : OR :=
 obind (ldv s 42 v8) fun x0 =>
 obind (rf D f_entry_Open [x0] s) fun x1 =>
 some (.normal, [(7, v7), (8, v8), (17, v17), (18, v18), (23, x1.1)], x1.2)
@[go_sem] theorem t34_9 : rc D b c34_9 ρ s = R34_9 b s (get ρ 7) (get ρ 8) (get ρ 17) (get ρ 18) := zr (by kernel_rfl)
@[go_sem] def R34_10 (_base : Nat) (s : St) (v7 v8 : V) : OR :=
 obind (fadv 42 1 10 v8) fun x0 =>
 obind (ldv s 10 x0) fun x1 =>
 some (.normal, [(4, v7), (5, x1), (6, (.int .i64 0))], s)
@[go_sem] theorem t34_10 : rc D b c34_10 ρ s = R34_10 b s (get ρ 7) (get ρ 8) := zd (by kernel_rfl)
@[go_sem] def R34_11 (_base : Nat) (s : St) (v17 v18 : V) : OR :=
 obind (vbin .add v18 (.int .i64 1)) fun x0 =>
 some (.normal, [(17, v17), (18, x0)], s)
@[go_sem] theorem t34_11 : rc D b c34_11 ρ s = R34_11 b s (get ρ 17) (get ρ 18) := zr (by kernel_rfl)
@[go_sem] def R34_12 (_base : Nat) (s : St) : OR :=
 some (.normal, [(4, (.int .i64 0)), (5, (.int .i64 0)), (6, (.int .i64 34))], s)
@[go_sem] theorem t34_12 : rc D b c34_12 ρ s = R34_12 b s := zr (by kernel_rfl)
@[go_sem] def R36_0 (_base : Nat) (s : St) (v0 v1 : V) : OR :=
 some (.normal, [(0, v0), (1, v1)], s)
@[go_sem] theorem t36_0 : rc D b c36_0 ρ s = R36_0 b s (get ρ 0) (get ρ 1) := zr (by kernel_rfl)
@[go_sem] def R36_1 (_base : Nat) (s : St) (v0 v1 : V) : OR :=
 obind (vbin .lss v0 (.int .i64 0)) fun x0 =>
 oguard x0 false (
   obind (vbin .gtr v0 v1) fun x1 =>
   oguard x1 false (
     obind (vbin .gtr v1 (.int .i64 1024)) fun x2 =>
     some (.normal, [(0, v0), (1, v1), (18, x2)], s)) (
     some (.normal, [(0, v0), (1, v1), (18, (.bool true))], s)) (
     none)) (
   some (.normal, [(0, v0), (1, v1), (18, (.bool true))], s)) (
   none)
@[go_sem] theorem t36_1 : rc D b c36_1 ρ s = R36_1 b s (get ρ 0) (get ρ 1) := zr (by kernel_rfl)
@[go_sem] def R36_2 (_base : Nat) (s : St) : OR :=
 some (.normal, [(4, .nilp), (5, (.int .i64 1))], s)
@[go_sem] theorem t36_2 : rc D b c36_2 ρ s = R36_2 b s := zr (by kernel_rfl)
@[go_sem] def R36_3 (_base : Nat) (s : St) (v0 v1 : V) : OR :=
 obind (setParts [(.int .i64 0), (.int .i64 0), (.agg 78 (List.replicate 16 (.int .u64 0))), (.agg 78 (List.replicate 16 (.int .u64 0)))] [(0, v0), (1, v1)]) fun x0 =>
 if V.ok (.agg 80 x0) && mayNew true (.agg 80 x0) then let x1 : V := .ptr (St.fresh s true) [] (V.tag (.agg 80 x0)); let s1 : St := St.new s true (.agg 80 x0)
 some (.normal, [(0, v0), (1, v1), (6, x1)], s1)
 else none
@[go_sem] theorem t36_3 : rc D b c36_3 ρ s = R36_3 b s (get ρ 0) (get ρ 1) := zr (by kernel_rfl)
@[go_sem] def R36_4 (_base : Nat) (s : St) (v0 v1 v6 : V) : OR :=
 obind (vbin .sub v1 v0) fun x0 =>
 some (.normal, [(0, v0), (6, v6), (25, x0), (26, (.int .i64 0))], s)
@[go_sem] theorem t36_4 : rc D b c36_4 ρ s = R36_4 b s (get ρ 0) (get ρ 1) (get ρ 6) := zr (by kernel_rfl)
@[go_sem] def R36_5 (_base : Nat) (s : St) (v0 v6 v25 v26 : V) : OR :=
 obind (vbin .lss v26 v25) fun x0 =>
 some (.normal, [(0, v0), (6, v6), (25, v25), (26, v26), (27, x0)], s)
@[go_sem] theorem t36_5 : rc D b c36_5 ρ s = R36_5 b s (get ρ 0) (get ρ 6) (get ρ 25) (get ρ 26) := zr (by kernel_rfl)
@[go_sem] def R36_6 (_base : Nat) (s : St) (v0 v6 v25 v26 : V) : OR :=
 some (.normal, [(0, v0), (6, v6), (7, v26), (25, v25), (26, v26)], s)
@[go_sem] theorem t36_6 : rc D b c36_6 ρ s = R36_6 b s (get ρ 0) (get ρ 6) (get ρ 25) (get ρ 26) := zr (by kernel_rfl)
@[go_sem] def R36_7 (_base : Nat) (s : St) (v0 v6 v7 v25 v26 : V) : OR :=
 obind (nilv v6) fun x0 =>
 obind (fadv 80 2 78 x0) fun x1 =>
 obind (vbin .add v0 v7) fun x2 =>
 obind (rf D f_frames_set_turn [x1, x2] s) fun x3 =>
 some (.normal, [(0, v0), (6, v6), (25, v25), (26, v26)], x3.2)
@[go_sem] theorem t36_7 : rc D b c36_7 ρ s = R36_7 b s (get ρ 0) (get ρ 6) (get ρ 7) (get ρ 25) (get ρ 26) := zr (by kernel_rfl)
@[go_sem] def R36_8 (_base : Nat) (s : St) (v0 v6 v25 v26 : V) : OR :=
 obind (vbin .add v26 (.int .i64 1)) fun x0 =>
 some (.normal, [(0, v0), (6, v6), (25, v25), (26, x0)], s)
@[go_sem] theorem t36_8 : rc D b c36_8 ρ s = R36_8 b s (get ρ 0) (get ρ 6) (get ρ 25) (get ρ 26) := zr (by kernel_rfl)
@[go_sem] def R36_9 (_base : Nat) (s : St) (v6 : V) : OR :=
 some (.normal, [(4, v6), (5, (.int .i64 0))], s)
@[go_sem] theorem t36_9 : rc D b c36_9 ρ s = R36_9 b s (get ρ 6) := zr (by kernel_rfl)
@[go_sem] def R37_0 (_base : Nat) (s : St) (v0 : V) : OR :=
 some (.normal, [(0, v0)], s)
@[go_sem] theorem t37_0 : rc D b c37_0 ρ s = R37_0 b s (get ρ 0) := zr (by kernel_rfl)
@[go_sem] def R37_1 (_base : Nat) (s : St) (v0 : V) : OR :=
 obind (nilv v0) fun x0 =>
 obind (fadv 59 0 1 x0) fun x1 =>
 obind (ldv s 1 x1) fun x2 =>
 obind (V.slen false x2) fun x3 =>
 some (.normal, [(2, (.int .i64 x3))], s)
@[go_sem] theorem t37_1 : rc D b c37_1 ρ s = R37_1 b s (get ρ 0) := zr (by kernel_rfl)
@[go_sem] def R38_0 (_base : Nat) (s : St) (v0 v1 : V) : OR :=
 some (.normal, [(0, v0), (1, v1)], s)
@[go_sem] theorem t38_0 : rc D b c38_0 ρ s = R38_0 b s (get ρ 0) (get ρ 1) := zr (by kernel_rfl)
@[go_sem] def R38_1 (_base : Nat) (s : St) (v0 v1 : V) : OR :=
 obind (rf D f_frames_Frames_in [v0, v1, (.int .i64 0)] s) fun x0 =>
 some (.normal, [(0, v0), (1, v1), (5, x0.1)], x0.2)
@[go_sem] theorem t38_1 : rc D b c38_1 ρ s = R38_1 b s (get ρ 0) (get ρ 1) := zr (by kernel_rfl)
@[go_sem] def R38_2 (_base : Nat) (s : St) (v0 v1 v5 : V) : OR :=
 obind (vbin .eql v5 (.int .i64 0)) fun x0 =>
 some (.normal, [(0, v0), (1, v1), (5, v5), (10, x0)], s)
@[go_sem] theorem t38_2 : rc D b c38_2 ρ s = R38_2 b s (get ρ 0) (get ρ 1) (get ρ 5) := zr (by kernel_rfl)
@[go_sem] def R38_3 (_base : Nat) (s : St) (v0 v1 v5 : V) : OR :=
 obind (nilv v0) fun x0 =>
 obind (fadv 80 2 78 x0) fun x1 =>
 obind (rf D f_frames_set_turn [x1, v1] s) fun x2 =>
 some (.normal, [(5, v5)], x2.2)
@[go_sem] theorem t38_3 : rc D b c38_3 ρ s = R38_3 b s (get ρ 0) (get ρ 1) (get ρ 5) := zr (by kernel_rfl)
@[go_sem] def R38_4 (_base : Nat) (s : St) (v5 : V) : OR :=
 some (.normal, [(4, v5)], s)
@[go_sem] theorem t38_4 : rc D b c38_4 ρ s = R38_4 b s (get ρ 5) := zr (by kernel_rfl)
@[go_sem] def R39_0 (base : Nat) (s : St) (v0 : V) : OR :=
 obind (setParts (List.replicate 1024 (.bool false)) []) fun x0 =>
 obind (nilv v0) fun x1 =>
 obind (fadv 43 7 82 x1) fun x2 =>
 obind (stv base s 82 (.agg 82 x0) x2) fun s3 =>
 some (.normal, [(0, v0)], s3)
@[go_sem] theorem t39_0 : rc D b c39_0 ρ s = R39_0 b s (get ρ 0) := zr (by kernel_rfl)
@[go_sem] def R39_1 (_base : Nat) (s : St) (v0 : V) : OR :=
 obind (nilv v0) fun x0 =>
 obind (fadv 43 7 82 x0) fun x1 =>
 obind (nilv v0) fun x2 =>
 obind (fadv 43 3 48 x2) fun x3 =>
 obind (ldv s 48 x3) fun x4 =>
 obind (rf D f_objects_lines_add [x1, x4] s) fun x5 =>
 some (.normal, [(0, v0)], x5.2)
@[go_sem] theorem t39_1 : rc D b c39_1 ρ s = R39_1 b s (get ρ 0) := zd (by kernel_rfl)
@[go_sem] def R39_2 (_base : Nat) (s : St) (v0 : V) : OR :=
 obind (nilv v0) fun x0 =>
 obind (fadv 43 6 0 x0) fun x1 =>
 obind (ldv s 0 x1) fun x2 =>
 some (.normal, [(0, v0), (17, x2)], s)
@[go_sem] theorem t39_2 : rc D b c39_2 ρ s = R39_2 b s (get ρ 0) := zr (by kernel_rfl)
@[go_sem] def R39_3 (_base : Nat) (s : St) (v0 : V) : OR :=
 obind (nilv v0) fun x0 =>
 obind (fadv 43 7 82 x0) fun x1 =>
 obind (nilv v0) fun x2 =>
 obind (fadv 43 5 48 x2) fun x3 =>
 obind (ldv s 48 x3) fun x4 =>
 obind (rf D f_objects_lines_add [x1, x4] s) fun x5 =>
 some (.normal, [], x5.2)
@[go_sem] theorem t39_3 : rc D b c39_3 ρ s = R39_3 b s (get ρ 0) := zd (by kernel_rfl)
@[go_sem] def R44_0 (_base : Nat) (s : St) (v0 : V) : OR :=
 some (.normal, [(0, v0)], s)
@[go_sem] theorem t44_0 : rc D b c44_0 ρ s = R44_0 b s (get ρ 0) := zr (by kernel_rfl)
@[go_sem] def R44_1 (_base : Nat) (s : St) (v0 : V) : OR :=
 some (.normal, [(0, v0), (3, (.int .i64 0))], s)
@[go_sem] theorem t44_1 : rc D b c44_1 ρ s = R44_1 b s (get ρ 0) := zr (by kernel_rfl)
@[go_sem] def R44_2 (_base : Nat) (s : St) (v0 v3 : V) : OR :=
 obind (nilv v0) fun x0 =>
 obind (fadv 80 2 78 x0) fun x1 =>
 obind (ldv s 78 x1) fun x2 =>
 some (.normal, [(3, v3), (9, x2), (10, (.int .i64 0))], s)
@[go_sem] theorem t44_2 : rc D b c44_2 ρ s = R44_2 b s (get ρ 0) (get ρ 3) := zr (by kernel_rfl)
@[go_sem] def R44_3 (_base : Nat) (s : St) (v3 v9 v10 : V) : OR :=
 obind (vbin .lss v10 (.int .i64 16)) fun x0 =>
 some (.normal, [(3, v3), (9, v9), (10, v10), (11, x0)], s)
@[go_sem] theorem t44_3 : rc D b c44_3 ρ s = R44_3 b s (get ρ 3) (get ρ 9) (get ρ 10) := zr (by kernel_rfl)
@[go_sem] def R44_4 (_base : Nat) (s : St) (v3 v9 v10 : V) : OR :=
 obind (idxv 78 16 v9 v10) fun x0 =>
 some (.normal, [(3, v3), (5, x0), (9, v9), (10, v10)], s)
@[go_sem] theorem t44_4 : rc D b c44_4 ρ s = R44_4 b s (get ρ 3) (get ρ 9) (get ρ 10) := zr (by kernel_rfl)
@[go_sem] def R44_5 (_base : Nat) (s : St) (v3 v5 v9 v10 : V) : OR :=
 obind (rf D f_math_bits_OnesCount64 [v5] s) fun x0 =>
 obind (vbin .add v3 x0.1) fun x1 =>
 some (.normal, [(3, x1), (9, v9), (10, v10)], x0.2)
@[go_sem] theorem t44_5 : rc D b c44_5 ρ s = R44_5 b s (get ρ 3) (get ρ 5) (get ρ 9) (get ρ 10) := zr (by kernel_rfl)
@[go_sem] def R44_6 (_base : Nat) (s : St) (v3 v9 v10 : V) : OR :=
 obind (vbin .add v10 (.int .i64 1)) fun x0 =>
 some (.normal, [(3, v3), (9, v9), (10, x0)], s)
@[go_sem] theorem t44_6 : rc D b c44_6 ρ s = R44_6 b s (get ρ 3) (get ρ 9) (get ρ 10) := zr (by kernel_rfl)
@[go_sem] def R44_7 (_base : Nat) (s : St) (v3 : V) : OR :=
 some (.normal, [(2, v3)], s)
@[go_sem] theorem t44_7 : rc D b c44_7 ρ s = R44_7 b s (get ρ 3) := zr (by kernel_rfl)
@[go_sem] def R45_0 (_base : Nat) (s : St) (v0 v1 : V) : OR :=
 some (.normal, [(0, v0), (1, v1)], s)
@[go_sem] theorem t45_0 : rc D b c45_0 ρ s = R45_0 b s (get ρ 0) (get ρ 1) := zr (by kernel_rfl)
@[go_sem] def R45_1 (_base : Nat) (s : St) (v0 v1 : V) : OR :=
 obind (vbin .lss v1 (.int .i64 0)) fun x0 =>
 some (.normal, [(0, v0), (1, v1), (5, x0)], s)
@[go_sem] theorem t45_1 : rc D b c45_1 ρ s = R45_1 b s (get ρ 0) (get ρ 1) := zr (by kernel_rfl)
@[go_sem] def R45_2 (_base : Nat) (s : St) (v0 v1 : V) : OR :=
 obind (vbin .geq v1 (.int .i64 49)) fun x0 =>
 some (.normal, [(0, v0), (1, v1), (5, x0)], s)
@[go_sem] theorem t45_2 : rc D b c45_2 ρ s = R45_2 b s (get ρ 0) (get ρ 1) := zr (by kernel_rfl)
@[go_sem] def R45_3 (_base : Nat) (s : St) : OR :=
 some (.normal, [(4, (.int .i64 1))], s)
@[go_sem] theorem t45_3 : rc D b c45_3 ρ s = R45_3 b s := zr (by kernel_rfl)
@[go_sem] def R45_4 (_base : Nat) (s : St) (v0 v1 : V) : OR :=
 obind (nilv v0) fun x0 =>
 obind (fadv 43 2 48 x0) fun x1 =>
 obind (iadv 48 49 42 x1 v1) fun x2 =>
 obind (fadv 42 0 10 x2) fun x3 =>
 obind (ldv s 10 x3) fun x4 =>
 obind (vbin .eql x4 (.int .i64 0)) fun x5 =>
 some (.normal, [(10, x5)], s)
@[go_sem] theorem t45_4 : rc D b c45_4 ρ s = R45_4 b s (get ρ 0) (get ρ 1) := zr (by kernel_rfl)
@[go_sem] def R45_5 (_base : Nat) (s : St) : OR :=
 some (.normal, [(4, (.int .i64 30))], s)
@[go_sem] theorem t45_5 : rc D b c45_5 ρ s = R45_5 b s := zr (by kernel_rfl)
@[go_sem] def R45_6 (_base : Nat) (s : St) : OR :=
 some (.normal, [(4, (.int .i64 0))], s)
@[go_sem] theorem t45_6 : rc D b c45_6 ρ s = R45_6 b s := zr (by kernel_rfl)
@[go_sem] def R46_0 (_base : Nat) (s : St) (v0 v1 : V) : OR :=
 some (.normal, [(0, v0), (1, v1)], s)
@[go_sem] theorem t46_0 : rc D b c46_0 ρ s = R46_0 b s (get ρ 0) (get ρ 1) := zr (by kernel_rfl)
@[go_sem] def R46_1 (_base : Nat) (s : St) (v0 v1 : V) : OR :=
 obind (nilv v0) fun x0 =>
 obind (fadv 43 2 48 x0) fun x1 =>
 obind (iadv 48 49 42 x1 v1) fun x2 =>
 obind (fadv 42 2 10 x2) fun x3 =>
 obind (ldv s 10 x3) fun x4 =>
 obind (nilv v0) fun x5 =>
 obind (fadv 43 7 82 x5) fun x6 =>
 obind (iadv 82 1024 0 x6 x4) fun x7 =>
 obind (ldv s 0 x7) fun x8 =>
 obind (vun .not x8) fun x9 =>
 some (.normal, [(4, x9)], s)
@[go_sem] theorem t46_1 : rc D b c46_1 ρ s = R46_1 b s (get ρ 0) (get ρ 1) := zd (by kernel_rfl)
@[go_sem] def R47_0 (_base : Nat) (s : St) (v0 v1 v2 v3 : V) : OR :=
 some (.normal, [(0, v0), (1, v1), (2, v2), (3, v3)], s)
@[go_sem] theorem t47_0 : rc D b c47_0 ρ s = R47_0 b s (get ρ 0) (get ρ 1) (get ρ 2) (get ρ 3) := zr (by kernel_rfl)
@[go_sem] def R47_1 (_base : Nat) (s : St) (v0 v1 v2 v3 : V) : OR :=
 obind (rf D f_nvm_Memory_at [v0, v1] s) fun x0 =>
 some (.normal, [(0, v0), (2, v2), (3, v3), (9, x0.1)], x0.2)
@[go_sem] theorem t47_1 : rc D b c47_1 ρ s = R47_1 b s (get ρ 0) (get ρ 1) (get ρ 2) (get ρ 3) := zr (by kernel_rfl)
@[go_sem] def R47_2 (_base : Nat) (s : St) (v0 v2 v3 v9 : V) : OR :=
 obind (eqv false 1 v9 .nilp) fun x0 =>
 oguard x0 false (
   obind (vbin .lss v2 (.int .i64 0)) fun x1 =>
   oguard x1 false (
     obind (vbin .geq v2 (.int .i64 8)) fun x2 =>
     some (.normal, [(0, v0), (2, v2), (3, v3), (9, v9), (23, x2)], s)) (
     some (.normal, [(0, v0), (2, v2), (3, v3), (9, v9), (23, (.bool true))], s)) (
     none)) (
   some (.normal, [(0, v0), (2, v2), (3, v3), (9, v9), (23, (.bool true))], s)) (
   none)
@[go_sem] theorem t47_2 : rc D b c47_2 ρ s = R47_2 b s (get ρ 0) (get ρ 2) (get ρ 3) (get ρ 9) := zr (by kernel_rfl)
@[go_sem] def R47_3 (_base : Nat) (s : St) : OR :=
 some (.normal, [(8, (.int .i64 1))], s)
@[go_sem] theorem t47_3 : rc D b c47_3 ρ s = R47_3 b s := zr (by kernel_rfl)
@[go_sem] def R47_4 (_base : Nat) (s : St) (v0 v2 v3 v9 : V) : OR :=
 obind (rf D f_nvm_Memory_step [v0] s) fun x0 =>
 some (.normal, [(2, v2), (3, v3), (9, v9), (10, x0.1)], x0.2)
@[go_sem] theorem t47_4 : rc D b c47_4 ρ s = R47_4 b s (get ρ 0) (get ρ 2) (get ρ 3) (get ρ 9) := zr (by kernel_rfl)
@[go_sem] def R47_5 (_base : Nat) (s : St) (v2 v3 v9 v10 : V) : OR :=
 obind (vbin .neq v10 (.int .i64 0)) fun x0 =>
 some (.normal, [(2, v2), (3, v3), (9, v9), (10, v10), (27, x0)], s)
@[go_sem] theorem t47_5 : rc D b c47_5 ρ s = R47_5 b s (get ρ 2) (get ρ 3) (get ρ 9) (get ρ 10) := zr (by kernel_rfl)
@[go_sem] def R47_6 (_base : Nat) (s : St) (v10 : V) : OR :=
 some (.normal, [(8, v10)], s)
@[go_sem] theorem t47_6 : rc D b c47_6 ρ s = R47_6 b s (get ρ 10) := zr (by kernel_rfl)
@[go_sem] def R47_7 (base : Nat) (s : St) (v2 v3 v9 : V) : OR :=
 obind (nilv v9) fun x0 =>
 obind (fadv 55 0 24 x0) fun x1 =>
 obind (iadv 24 8 18 x1 v2) fun x2 =>
 obind (stv base s 18 v3 x2) fun s3 =>
 some (.normal, [(2, v2), (3, v3), (9, v9)], s3)
@[go_sem] theorem t47_7 : rc D b c47_7 ρ s = R47_7 b s (get ρ 2) (get ρ 3) (get ρ 9) := zr (by kernel_rfl)
@[go_sem] def R47_8 (base : Nat) (s : St) (v2 v3 v9 : V) : OR :=
 obind (nilv v9) fun x0 =>
 obind (fadv 55 2 1 x0) fun x1 =>
 obind (ldv s 1 x1) fun x2 =>
 obind (setParts [(.int .i64 0), (.int .u64 0)] [(0, v2), (1, v3)]) fun x3 =>
 obind (bslv false 86 84 1 (.agg 84 [(.int .i64 0), (.int .u64 0)]) s [(0, (.agg 84 x3))]) fun x4 =>
 obind (vappend base true 86 84 x2 x4.1 x4.2) fun x5 =>
 obind (nilv v9) fun x6 =>
 obind (fadv 55 2 1 x6) fun x7 =>
 obind (stv base x5.2 1 x5.1 x7) fun s8 =>
 some (.normal, [], s8)
@[go_sem] theorem t47_8 : rc D b c47_8 ρ s = R47_8 b s (get ρ 2) (get ρ 3) (get ρ 9) := zr (by kernel_rfl)
@[go_sem] def R47_9 (_base : Nat) (s : St) : OR :=
 some (.normal, [(8, (.int .i64 0))], s)
@[go_sem] theorem t47_9 : rc D b c47_9 ρ s = R47_9 b s := zr (by kernel_rfl)
@[go_sem] def R48_0 (_base : Nat) (s : St) (v0 v1 : V) : OR :=
 if V.ok v1 && mayNew false v1 then let x0 : V := .ptr (St.fresh s false) [] (V.tag v1); let s0 : St := St.new s false v1
 some (.normal, [(0, v0), (3, x0)], s0)
 else none
@[go_sem] theorem t48_0 : rc D b c48_0 ρ s = R48_0 b s (get ρ 0) (get ρ 1) := zr (by kernel_rfl)
@[go_sem] def R48_1 (_base : Nat) (s : St) (v0 v3 : V) : OR :=
 obind (nilv v0) fun x0 =>
 obind (fadv 43 1 1 x0) fun x1 =>
 obind (ldv s 1 x1) fun x2 =>
 obind (rf D f_frames_Frames_Alloc [x2] s) fun x3 =>
 obind (extv 0 x3.1) fun x4 =>
 obind (extv 1 x3.1) fun x5 =>
 some (.normal, [(0, v0), (3, v3), (6, x4), (7, x5)], x3.2)
@[go_sem] theorem t48_1 : rc D b c48_1 ρ s = R48_1 b s (get ρ 0) (get ρ 3) := zr (by kernel_rfl)
@[go_sem] def R48_2 (_base : Nat) (s : St) (v0 v3 v6 v7 : V) : OR :=
 obind (vbin .neq v7 (.int .i64 0)) fun x0 =>
 some (.normal, [(0, v0), (3, v3), (6, v6), (7, v7), (20, x0)], s)
@[go_sem] theorem t48_2 : rc D b c48_2 ρ s = R48_2 b s (get ρ 0) (get ρ 3) (get ρ 6) (get ρ 7) := zr (by kernel_rfl)
@[go_sem] def R48_3 (_base : Nat) (s : St) (v7 : V) : OR :=
 some (.normal, [(4, (.int .i64 0)), (5, v7)], s)
@[go_sem] theorem t48_3 : rc D b c48_3 ρ s = R48_3 b s (get ρ 7) := zr (by kernel_rfl)
@[go_sem] def R48_4 (_base : Nat) (s : St) (v0 v3 v6 : V) : OR :=
 obind (ldv s 24 v3) fun x0 =>
 some (.normal, [(0, v0), (6, v6), (22, x0), (23, (.int .i64 0))], s)
@[go_sem] theorem t48_4 : rc D b c48_4 ρ s = R48_4 b s (get ρ 0) (get ρ 3) (get ρ 6) := zr (by kernel_rfl)
@[go_sem] def R48_5 (_base : Nat) (s : St) (v0 v6 v22 v23 : V) : OR :=
 obind (vbin .lss v23 (.int .i64 8)) fun x0 =>
 some (.normal, [(0, v0), (6, v6), (22, v22), (23, v23), (24, x0)], s)
@[go_sem] theorem t48_5 : rc D b c48_5 ρ s = R48_5 b s (get ρ 0) (get ρ 6) (get ρ 22) (get ρ 23) := zr (by kernel_rfl)
@[go_sem] def R48_6 (_base : Nat) (s : St) (v0 v6 v22 v23 : V) : OR :=
 obind (idxv 24 8 v22 v23) fun x0 =>
 some (.normal, [(0, v0), (6, v6), (8, v23), (9, x0), (22, v22), (23, v23)], s)
@[go_sem] theorem t48_6 : rc D b c48_6 ρ s = R48_6 b s (get ρ 0) (get ρ 6) (get ρ 22) (get ρ 23) := zr (by kernel_rfl)
@[go_sem] def R48_7 (_base : Nat) (s : St) (v0 v6 v8 v9 v22 v23 : V) : OR :=
 obind (nilv v0) fun x0 =>
 obind (fadv 43 0 1 x0) fun x1 =>
 obind (ldv s 1 x1) fun x2 =>
 obind (rf D f_nvm_Memory_Store [x2, v6, v8, v9] s) fun x3 =>
 some (.normal, [(0, v0), (6, v6), (10, x3.1), (22, v22), (23, v23)], x3.2)
@[go_sem] theorem t48_7 : rc D b c48_7 ρ s = R48_7 b s (get ρ 0) (get ρ 6) (get ρ 8) (get ρ 9) (get ρ 22) (get ρ 23) := zr (by kernel_rfl)
@[go_sem] def R48_8 (_base : Nat) (s : St) (v0 v6 v10 v22 v23 : V) : OR :=
 obind (vbin .neq v10 (.int .i64 0)) fun x0 =>
 some (.normal, [(0, v0), (6, v6), (10, v10), (22, v22), (23, v23), (36, x0)], s)
@[go_sem] theorem t48_8 : rc D b c48_8 ρ s = R48_8 b s (get ρ 0) (get ρ 6) (get ρ 10) (get ρ 22) (get ρ 23) := zr (by kernel_rfl)
@[go_sem] def R48_9 (_base : Nat) (s : St) (v10 : V) : OR :=
 some (.normal, [(4, (.int .i64 0)), (5, v10)], s)
@[go_sem] theorem t48_9 : rc D b c48_9 ρ s = R48_9 b s (get ρ 10) := zr (by kernel_rfl)
@[go_sem] def R48_10 (_base : Nat) (s : St) (v0 v6 v22 v23 : V) : OR :=
 obind (vbin .add v23 (.int .i64 1)) fun x0 =>
 some (.normal, [(0, v0), (6, v6), (22, v22), (23, x0)], s)
@[go_sem] theorem t48_10 : rc D b c48_10 ρ s = R48_10 b s (get ρ 0) (get ρ 6) (get ρ 22) (get ρ 23) := zr (by kernel_rfl)
@[go_sem] def R48_11 (_base : Nat) (s : St) (v6 : V) : OR :=
 some (.normal, [(4, v6), (5, (.int .i64 0))], s)
@[go_sem] theorem t48_11 : rc D b c48_11 ρ s = R48_11 b s (get ρ 6) := zr (by kernel_rfl)
@[go_sem] def R49_0 (_base : Nat) (s : St) (v0 : V) : OR :=
 some (.normal, [(0, v0)], s)
@[go_sem] theorem t49_0 : rc D b c49_0 ρ s = R49_0 b s (get ρ 0) := zr (by kernel_rfl)
@[go_sem] def R49_1 (_base : Nat) (s : St) (v0 : V) : OR :=
 obind (nilv v0) fun x0 =>
 obind (fadv 80 2 78 x0) fun x1 =>
 obind (ldv s 78 x1) fun x2 =>
 some (.normal, [(0, v0), (10, x2), (11, (.int .i64 0))], s)
@[go_sem] theorem t49_1 : rc D b c49_1 ρ s = R49_1 b s (get ρ 0) := zr (by kernel_rfl)
@[go_sem] def R49_2 (_base : Nat) (s : St) (v0 v10 v11 : V) : OR :=
 obind (vbin .lss v11 (.int .i64 16)) fun x0 =>
 some (.normal, [(0, v0), (10, v10), (11, v11), (12, x0)], s)
@[go_sem] theorem t49_2 : rc D b c49_2 ρ s = R49_2 b s (get ρ 0) (get ρ 10) (get ρ 11) := zr (by kernel_rfl)
@[go_sem] def R49_3 (_base : Nat) (s : St) (v0 v10 v11 : V) : OR :=
 obind (idxv 78 16 v10 v11) fun x0 =>
 some (.normal, [(0, v0), (4, v11), (5, x0), (10, v10), (11, v11)], s)
@[go_sem] theorem t49_3 : rc D b c49_3 ρ s = R49_3 b s (get ρ 0) (get ρ 10) (get ρ 11) := zr (by kernel_rfl)
@[go_sem] def R49_4 (_base : Nat) (s : St) (v0 v4 v5 v10 v11 : V) : OR :=
 obind (vbin .neq v5 (.int .u64 0)) fun x0 =>
 some (.normal, [(0, v0), (4, v4), (5, v5), (10, v10), (11, v11), (16, x0)], s)
@[go_sem] theorem t49_4 : rc D b c49_4 ρ s = R49_4 b s (get ρ 0) (get ρ 4) (get ρ 5) (get ρ 10) (get ρ 11) := zr (by kernel_rfl)
@[go_sem] def R49_5 (_base : Nat) (s : St) (v0 v4 v5 : V) : OR :=
 obind (vbin .mul (.int .i64 64) v4) fun x0 =>
 obind (rf D f_math_bits_TrailingZeros64 [v5] s) fun x1 =>
 obind (vbin .add x0 x1.1) fun x2 =>
 some (.normal, [(0, v0), (6, x2)], x1.2)
@[go_sem] theorem t49_5 : rc D b c49_5 ρ s = R49_5 b s (get ρ 0) (get ρ 4) (get ρ 5) := zr (by kernel_rfl)
@[go_sem] def R49_6 (_base : Nat) (s : St) (v0 v6 : V) : OR :=
 obind (nilv v0) fun x0 =>
 obind (fadv 80 2 78 x0) fun x1 =>
 obind (rf D f_frames_set_turn [x1, v6] s) fun x2 =>
 some (.normal, [(6, v6)], x2.2)
@[go_sem] theorem t49_6 : rc D b c49_6 ρ s = R49_6 b s (get ρ 0) (get ρ 6) := zr (by kernel_rfl)
@[go_sem] def R49_7 (_base : Nat) (s : St) (v6 : V) : OR :=
 some (.normal, [(2, v6), (3, (.int .i64 0))], s)
@[go_sem] theorem t49_7 : rc D b c49_7 ρ s = R49_7 b s (get ρ 6) := zr (by kernel_rfl)
@[go_sem] def R49_8 (_base : Nat) (s : St) (v0 v10 v11 : V) : OR :=
 obind (vbin .add v11 (.int .i64 1)) fun x0 =>
 some (.normal, [(0, v0), (10, v10), (11, x0)], s)
@[go_sem] theorem t49_8 : rc D b c49_8 ρ s = R49_8 b s (get ρ 0) (get ρ 10) (get ρ 11) := zr (by kernel_rfl)
@[go_sem] def R49_9 (_base : Nat) (s : St) : OR :=
 some (.normal, [(2, (.int .i64 0)), (3, (.int .i64 10))], s)
@[go_sem] theorem t49_9 : rc D b c49_9 ρ s = R49_9 b s := zr (by kernel_rfl)
@[go_sem] def R50_0 (_base : Nat) (s : St) (v0 v1 : V) : OR :=
 some (.normal, [(0, v0), (1, v1)], s)
@[go_sem] theorem t50_0 : rc D b c50_0 ρ s = R50_0 b s (get ρ 0) (get ρ 1) := zr (by kernel_rfl)
@[go_sem] def R50_1 (_base : Nat) (s : St) (v0 v1 : V) : OR :=
 obind (rf D f_frames_Frames_in [v0, v1, (.int .i64 1)] s) fun x0 =>
 some (.normal, [(0, v0), (1, v1), (5, x0.1)], x0.2)
@[go_sem] theorem t50_1 : rc D b c50_1 ρ s = R50_1 b s (get ρ 0) (get ρ 1) := zr (by kernel_rfl)
@[go_sem] def R50_2 (_base : Nat) (s : St) (v0 v1 v5 : V) : OR :=
 obind (vbin .eql v5 (.int .i64 0)) fun x0 =>
 some (.normal, [(0, v0), (1, v1), (5, v5), (10, x0)], s)
@[go_sem] theorem t50_2 : rc D b c50_2 ρ s = R50_2 b s (get ρ 0) (get ρ 1) (get ρ 5) := zr (by kernel_rfl)
@[go_sem] def R50_3 (_base : Nat) (s : St) (v0 v1 v5 : V) : OR :=
 obind (nilv v0) fun x0 =>
 obind (fadv 80 2 78 x0) fun x1 =>
 obind (rf D f_frames_set_turn [x1, v1] s) fun x2 =>
 some (.normal, [(5, v5)], x2.2)
@[go_sem] theorem t50_3 : rc D b c50_3 ρ s = R50_3 b s (get ρ 0) (get ρ 1) (get ρ 5) := zr (by kernel_rfl)
@[go_sem] def R50_4 (_base : Nat) (s : St) (v5 : V) : OR :=
 some (.normal, [(4, v5)], s)
@[go_sem] theorem t50_4 : rc D b c50_4 ρ s = R50_4 b s (get ρ 5) := zr (by kernel_rfl)
@[go_sem] def R51_0 (_base : Nat) (s : St) (v0 : V) : OR :=
 if V.ok v0 && mayNew false v0 then let x0 : V := .ptr (St.fresh s false) [] (V.tag v0); let s0 : St := St.new s false v0
 let x1 : V := .ptr (St.fresh s0 false) [] 42; let s1 : St := St.new s0 false (.agg 42 [(.int .i64 0), (.int .i64 0), (.int .i64 0)])
 some (.normal, [(1, x0), (2, x1)], s1)
 else none
@[go_sem] theorem t51_0 : rc D b c51_0 ρ s = R51_0 b s (get ρ 0) := zr (by kernel_rfl)
@[go_sem] def R51_1 (_base : Nat) (s : St) (v1 v2 : V) : OR :=
 obind (fadv 42 0 10 v1) fun x0 =>
 obind (ldv s 10 x0) fun x1 =>
 obind (vbin .eql x1 (.int .i64 0)) fun x2 =>
 some (.normal, [(1, v1), (2, v2), (6, x2)], s)
@[go_sem] theorem t51_1 : rc D b c51_1 ρ s = R51_1 b s (get ρ 1) (get ρ 2) := zr (by kernel_rfl)
@[go_sem] def R51_2 (base : Nat) (s : St) (v2 : V) : OR :=
 obind (setParts [(.int .i64 0), (.int .i64 0), (.int .i64 0)] []) fun x0 =>
 obind (stv base s 42 (.agg 42 x0) v2) fun s1 =>
 some (.normal, [(2, v2), (3, (.int .i64 30))], s1)
@[go_sem] theorem t51_2 : rc D b c51_2 ρ s = R51_2 b s (get ρ 2) := zr (by kernel_rfl)
@[go_sem] def R51_3 (base : Nat) (s : St) (v1 v2 : V) : OR :=
 obind (fadv 42 1 10 v1) fun x0 =>
 obind (ldv s 10 x0) fun x1 =>
 obind (fadv 42 1 10 v1) fun x2 =>
 obind (ldv s 10 x2) fun x3 =>
 obind (vbin .sub (.int .i64 16777215) x3) fun x4 =>
 obind (vmnx false (.int .i64 1) x4) fun x5 =>
 obind (vbin .add x1 x5) fun x6 =>
 obind (setParts [(.int .i64 0), (.int .i64 0), (.int .i64 0)] [(1, x6)]) fun x7 =>
 obind (stv base s 42 (.agg 42 x7) v2) fun s8 =>
 some (.normal, [(2, v2), (3, (.int .i64 0))], s8)
@[go_sem] theorem t51_3 : rc D b c51_3 ρ s = R51_3 b s (get ρ 1) (get ρ 2) := zr (by kernel_rfl)
@[go_sem] def R52_0 (_base : Nat) (s : St) (v0 v1 : V) : OR :=
 some (.normal, [(0, v0), (1, v1)], s)
@[go_sem] theorem t52_0 : rc D b c52_0 ρ s = R52_0 b s (get ρ 0) (get ρ 1) := zr (by kernel_rfl)
@[go_sem] def R52_1 (_base : Nat) (s : St) (v0 v1 : V) : OR :=
 obind (vbin .lss v1 (.int .i64 0)) fun x0 =>
 oguard x0 false (
   obind (nilv v0) fun x1 =>
   obind (fadv 59 0 1 x1) fun x2 =>
   obind (ldv s 1 x2) fun x3 =>
   obind (V.slen false x3) fun x4 =>
   obind (vbin .geq v1 (.int .i64 x4)) fun x5 =>
   some (.normal, [(0, v0), (1, v1), (15, x5)], s)) (
   some (.normal, [(0, v0), (1, v1), (15, (.bool true))], s)) (
   none)
@[go_sem] theorem t52_1 : rc D b c52_1 ρ s = R52_1 b s (get ρ 0) (get ρ 1) := zr (by kernel_rfl)
@[go_sem] def R52_2 (_base : Nat) (s : St) : OR :=
 some (.normal, [(4, .nilp)], s)
@[go_sem] theorem t52_2 : rc D b c52_2 ρ s = R52_2 b s := zr (by kernel_rfl)
@[go_sem] def R52_3 (_base : Nat) (s : St) (v0 v1 : V) : OR :=
 obind (nilv v0) fun x0 =>
 obind (fadv 59 0 1 x0) fun x1 =>
 obind (ldv s 1 x1) fun x2 =>
 obind (sadv 55 x2 v1) fun x3 =>
 some (.normal, [(4, x3)], s)
@[go_sem] theorem t52_3 : rc D b c52_3 ρ s = R52_3 b s (get ρ 0) (get ρ 1) := zr (by kernel_rfl)
@[go_sem] def R56_0 (base : Nat) (s : St) (v0 : V) : OR :=
 obind (nilv v0) fun x0 =>
 obind (fadv 43 6 0 x0) fun x1 =>
 obind (stv base s 0 (.bool false) x1) fun s2 =>
 some (.normal, [(0, v0)], s2)
@[go_sem] theorem t56_0 : rc D b c56_0 ρ s = R56_0 b s (get ρ 0) := zr (by kernel_rfl)
@[go_sem] def R56_1 (_base : Nat) (s : St) (v0 : V) : OR :=
 obind (rf D f_objects_Store_share [v0] s) fun x0 =>
 some (.normal, [(0, v0)], x0.2)
@[go_sem] theorem t56_1 : rc D b c56_1 ρ s = R56_1 b s (get ρ 0) := zr (by kernel_rfl)
@[go_sem] def R56_2 (base : Nat) (s : St) (v0 : V) : OR :=
 obind (nilv v0) fun x0 =>
 obind (fadv 43 7 82 x0) fun x1 =>
 obind (ldv s 82 x1) fun x2 =>
 let x3 : V := .ptr (St.fresh s false) [] 82; let s3 : St := St.new s false (.agg 82 (List.replicate 1024 (.bool false)))
 obind (stv base s3 82 x2 x3) fun s4 =>
 some (.normal, [(0, v0), (2, x3)], s4)
@[go_sem] theorem t56_2 : rc D b c56_2 ρ s = R56_2 b s (get ρ 0) := zr (by kernel_rfl)
@[go_sem] def R56_3 (_base : Nat) (s : St) (v0 v2 : V) : OR :=
 obind (nilv v0) fun x0 =>
 obind (fadv 43 2 48 x0) fun x1 =>
 obind (ldv s 48 x1) fun x2 =>
 obind (rf D f_objects_lines_add [v2, x2] s) fun x3 =>
 some (.normal, [(0, v0), (2, v2)], x3.2)
@[go_sem] theorem t56_3 : rc D b c56_3 ρ s = R56_3 b s (get ρ 0) (get ρ 2) := zr (by kernel_rfl)
@[go_sem] def R56_4 (_base : Nat) (s : St) (v0 v2 : V) : OR :=
 obind (nilv v0) fun x0 =>
 obind (fadv 43 4 50 x0) fun x1 =>
 obind (ldv s 50 x1) fun x2 =>
 some (.normal, [(0, v0), (2, v2), (23, x2), (24, (.int .i64 0))], s)
@[go_sem] theorem t56_4 : rc D b c56_4 ρ s = R56_4 b s (get ρ 0) (get ρ 2) := zr (by kernel_rfl)
@[go_sem] def R56_5 (_base : Nat) (s : St) (v0 v2 v23 v24 : V) : OR :=
 obind (vbin .lss v24 (.int .i64 8)) fun x0 =>
 some (.normal, [(0, v0), (2, v2), (23, v23), (24, v24), (25, x0)], s)
@[go_sem] theorem t56_5 : rc D b c56_5 ρ s = R56_5 b s (get ρ 0) (get ρ 2) (get ρ 23) (get ρ 24) := zr (by kernel_rfl)
@[go_sem] def R56_6 (_base : Nat) (s : St) (v0 v2 v23 v24 : V) : OR :=
 obind (idxv 50 8 v23 v24) fun x0 =>
 some (.normal, [(0, v0), (2, v2), (4, x0), (23, v23), (24, v24)], s)
@[go_sem] theorem t56_6 : rc D b c56_6 ρ s = R56_6 b s (get ρ 0) (get ρ 2) (get ρ 23) (get ρ 24) := zr (by kernel_rfl)
@[go_sem] def R56_7 (_base : Nat) (s : St) (v0 v2 v4 v23 v24 : V) : OR :=
 obind (vbin .geq v4 (.int .i64 0)) fun x0 =>
 oguard x0 true (
   obind (vbin .lss v4 (.int .i64 1024)) fun x1 =>
   some (.normal, [(0, v0), (2, v2), (4, v4), (23, v23), (24, v24), (32, x1)], s)) (
   some (.normal, [(0, v0), (2, v2), (4, v4), (23, v23), (24, v24), (32, (.bool false))], s)) (
   none)
@[go_sem] theorem t56_7 : rc D b c56_7 ρ s = R56_7 b s (get ρ 0) (get ρ 2) (get ρ 4) (get ρ 23) (get ρ 24) := zr (by kernel_rfl)
@[go_sem] def R56_8 (base : Nat) (s : St) (v0 v2 v4 v23 v24 : V) : OR :=
 obind (iadv 82 1024 0 v2 v4) fun x0 =>
 obind (stv base s 0 (.bool true) x0) fun s1 =>
 some (.normal, [(0, v0), (2, v2), (23, v23), (24, v24)], s1)
@[go_sem] theorem t56_8 : rc D b c56_8 ρ s = R56_8 b s (get ρ 0) (get ρ 2) (get ρ 4) (get ρ 23) (get ρ 24) := zr (by kernel_rfl)
@[go_sem] def R56_9 (_base : Nat) (s : St) (v0 v2 v23 v24 : V) : OR :=
 obind (vbin .add v24 (.int .i64 1)) fun x0 =>
 some (.normal, [(0, v0), (2, v2), (23, v23), (24, x0)], s)
@[go_sem] theorem t56_9 : rc D b c56_9 ρ s = R56_9 b s (get ρ 0) (get ρ 2) (get ρ 23) (get ρ 24) := zr (by kernel_rfl)
@[go_sem] def R56_10 (_base : Nat) (s : St) (v0 v2 : V) : OR :=
 obind (nilv v0) fun x0 =>
 obind (fadv 43 0 1 x0) fun x1 =>
 obind (ldv s 1 x1) fun x2 =>
 obind (rf D f_nvm_Memory_Lines [x2] s) fun x3 =>
 some (.normal, [(0, v0), (2, v2), (40, x3.1), (41, (.int .i64 0))], x3.2)
@[go_sem] theorem t56_10 : rc D b c56_10 ρ s = R56_10 b s (get ρ 0) (get ρ 2) := zr (by kernel_rfl)
@[go_sem] def R56_11 (_base : Nat) (s : St) (v0 v2 v40 v41 : V) : OR :=
 obind (vbin .lss v41 v40) fun x0 =>
 some (.normal, [(0, v0), (2, v2), (40, v40), (41, v41), (42, x0)], s)
@[go_sem] theorem t56_11 : rc D b c56_11 ρ s = R56_11 b s (get ρ 0) (get ρ 2) (get ρ 40) (get ρ 41) := zr (by kernel_rfl)
@[go_sem] def R56_12 (_base : Nat) (s : St) (v0 v2 v40 v41 : V) : OR :=
 some (.normal, [(0, v0), (2, v2), (5, v41), (40, v40), (41, v41)], s)
@[go_sem] theorem t56_12 : rc D b c56_12 ρ s = R56_12 b s (get ρ 0) (get ρ 2) (get ρ 40) (get ρ 41) := zr (by kernel_rfl)
@[go_sem] def R56_13 (_base : Nat) (s : St) (v0 v2 v5 v40 v41 : V) : OR :=
 obind (iadv 82 1024 0 v2 v5) fun x0 =>
 obind (ldv s 0 x0) fun x1 =>
 obind (vun .not x1) fun x2 =>
 oguard x2 true (
   obind (nilv v0) fun x3 =>
   obind (fadv 43 1 1 x3) fun x4 =>
   obind (ldv s 1 x4) fun x5 =>
   obind (rf D f_frames_Frames_State [x5, v5] s) fun x6 =>
   obind (vbin .eql x6.1 (.int .i64 1)) fun x7 =>
   some (.normal, [(0, v0), (2, v2), (5, v5), (40, v40), (41, v41), (56, x7)], x6.2)) (
   some (.normal, [(0, v0), (2, v2), (5, v5), (40, v40), (41, v41), (56, (.bool false))], s)) (
   none)
@[go_sem] theorem t56_13 : rc D b c56_13 ρ s = R56_13 b s (get ρ 0) (get ρ 2) (get ρ 5) (get ρ 40) (get ρ 41) := zr (by kernel_rfl)
@[go_sem] def R56_14 (_base : Nat) (s : St) (v0 v2 v5 v40 v41 : V) : OR :=
 obind (nilv v0) fun x0 =>
 obind (fadv 43 1 1 x0) fun x1 =>
 obind (ldv s 1 x1) fun x2 =>
 obind (rf D f_frames_Frames_Later [x2, v5] s) fun x3 =>
 some (.normal, [(0, v0), (2, v2), (40, v40), (41, v41)], x3.2)
@[go_sem] theorem t56_14 : rc D b c56_14 ρ s = R56_14 b s (get ρ 0) (get ρ 2) (get ρ 5) (get ρ 40) (get ρ 41) := zr (by kernel_rfl)
@[go_sem] def R56_15 (_base : Nat) (s : St) (v0 v2 v40 v41 : V) : OR :=
 obind (vbin .add v41 (.int .i64 1)) fun x0 =>
 some (.normal, [(0, v0), (2, v2), (40, v40), (41, x0)], s)
@[go_sem] theorem t56_15 : rc D b c56_15 ρ s = R56_15 b s (get ρ 0) (get ρ 2) (get ρ 40) (get ρ 41) := zr (by kernel_rfl)
@[go_sem] def R56_16 (_base : Nat) (s : St) (v0 : V) : OR :=
 obind (nilv v0) fun x0 =>
 obind (fadv 43 1 1 x0) fun x1 =>
 obind (ldv s 1 x1) fun x2 =>
 obind (rf D f_frames_Frames_Settle [x2] s) fun x3 =>
 some (.normal, [], x3.2)
@[go_sem] theorem t56_16 : rc D b c56_16 ρ s = R56_16 b s (get ρ 0) := zr (by kernel_rfl)
@[go_sem] def R57_0 (_base : Nat) (s : St) (v0 : V) : OR :=
 if V.ok v0 && mayNew false v0 then let x0 : V := .ptr (St.fresh s false) [] (V.tag v0); let s0 : St := St.new s false v0
 some (.normal, [(1, x0)], s0)
 else none
@[go_sem] theorem t57_0 : rc D b c57_0 ρ s = R57_0 b s (get ρ 0) := zr (by kernel_rfl)
@[go_sem] def R57_1 (_base : Nat) (s : St) (v1 : V) : OR :=
 obind (fadv 42 0 10 v1) fun x0 =>
 obind (ldv s 10 x0) fun x1 =>
 obind (vbin .eql x1 (.int .i64 0)) fun x2 =>
 oguard x2 true (
   obind (fadv 42 1 10 v1) fun x3 =>
   obind (ldv s 10 x3) fun x4 =>
   obind (vbin .lss x4 (.int .i64 16777215)) fun x5 =>
   some (.normal, [(2, x5)], s)) (
   some (.normal, [(2, (.bool false))], s)) (
   none)
@[go_sem] theorem t57_1 : rc D b c57_1 ρ s = R57_1 b s (get ρ 1) := zr (by kernel_rfl)
@[go_sem] def R58_0 (base : Nat) (s : St) (v0 v1 : V) : OR :=
 obind (vbin .quo v1 (.int .i64 64)) fun x0 =>
 obind (nilv v0) fun x1 =>
 obind (iadv 78 16 18 x1 x0) fun x2 =>
 obind (ldv s 18 x2) fun x3 =>
 obind (vbin .rem v1 (.int .i64 64)) fun x4 =>
 obind (vbin .shl (.int .u64 1) x4) fun x5 =>
 obind (vbin .xor x3 x5) fun x6 =>
 obind (nilv v0) fun x7 =>
 obind (iadv 78 16 18 x7 x0) fun x8 =>
 obind (stv base s 18 x6 x8) fun s9 =>
 some (.normal, [], s9)
@[go_sem] theorem t58_0 : rc D b c58_0 ρ s = R58_0 b s (get ρ 0) (get ρ 1) := zd (by kernel_rfl)
@[go_sem] def R59_0 (_base : Nat) (s : St) (v0 v1 v2 : V) : OR :=
 some (.normal, [(0, v0), (1, v1), (2, v2)], s)
@[go_sem] theorem t59_0 : rc D b c59_0 ρ s = R59_0 b s (get ρ 0) (get ρ 1) (get ρ 2) := zr (by kernel_rfl)
@[go_sem] def R59_1 (_base : Nat) (s : St) (v0 v1 v2 : V) : OR :=
 obind (rf D f_frames_Frames_State [v0, v1] s) fun x0 =>
 some (.normal, [(2, v2), (9, x0.1)], x0.2)
@[go_sem] theorem t59_1 : rc D b c59_1 ρ s = R59_1 b s (get ρ 0) (get ρ 1) (get ρ 2) := zr (by kernel_rfl)
@[go_sem] def R59_2 (_base : Nat) (s : St) (v2 v9 : V) : OR :=
 obind (vbin .eql v9 (.int .i64 (-1))) fun x0 =>
 some (.normal, [(2, v2), (9, v9), (10, x0)], s)
@[go_sem] theorem t59_2 : rc D b c59_2 ρ s = R59_2 b s (get ρ 2) (get ρ 9) := zr (by kernel_rfl)
@[go_sem] def R59_3 (_base : Nat) (s : St) : OR :=
 some (.normal, [(6, (.int .i64 1))], s)
@[go_sem] theorem t59_3 : rc D b c59_3 ρ s = R59_3 b s := zr (by kernel_rfl)
@[go_sem] def R59_4 (_base : Nat) (s : St) (v2 v9 : V) : OR :=
 obind (vbin .eql v9 v2) fun x0 =>
 some (.normal, [(12, x0)], s)
@[go_sem] theorem t59_4 : rc D b c59_4 ρ s = R59_4 b s (get ρ 2) (get ρ 9) := zr (by kernel_rfl)
@[go_sem] def R59_5 (_base : Nat) (s : St) : OR :=
 some (.normal, [(6, (.int .i64 0))], s)
@[go_sem] theorem t59_5 : rc D b c59_5 ρ s = R59_5 b s := zr (by kernel_rfl)
@[go_sem] def R59_6 (_base : Nat) (s : St) : OR :=
 some (.normal, [(6, (.int .i64 3))], s)
@[go_sem] theorem t59_6 : rc D b c59_6 ρ s = R59_6 b s := zr (by kernel_rfl)
@[go_sem] def R60_0 (_base : Nat) (s : St) (v0 v1 : V) : OR :=
 if V.ok v1 && mayNew false v1 then let x0 : V := .ptr (St.fresh s false) [] (V.tag v1); let s0 : St := St.new s false v1
 some (.normal, [(0, v0), (3, x0)], s0)
 else none
@[go_sem] theorem t60_0 : rc D b c60_0 ρ s = R60_0 b s (get ρ 0) (get ρ 1) := zr (by kernel_rfl)
@[go_sem] def R60_1 (_base : Nat) (s : St) (v0 v3 : V) : OR :=
 obind (ldv s 48 v3) fun x0 =>
 some (.normal, [(0, v0), (6, x0), (7, (.int .i64 0))], s)
@[go_sem] theorem t60_1 : rc D b c60_1 ρ s = R60_1 b s (get ρ 0) (get ρ 3) := zr (by kernel_rfl)
@[go_sem] def R60_2 (_base : Nat) (s : St) (v0 v6 v7 : V) : OR :=
 obind (vbin .lss v7 (.int .i64 49)) fun x0 =>
 some (.normal, [(0, v0), (6, v6), (7, v7), (8, x0)], s)
@[go_sem] theorem t60_2 : rc D b c60_2 ρ s = R60_2 b s (get ρ 0) (get ρ 6) (get ρ 7) := zr (by kernel_rfl)
@[go_sem] def R60_3 (base : Nat) (s : St) (v0 v6 v7 : V) : OR :=
 obind (idxv 48 49 v6 v7) fun x0 =>
 let x1 : V := .ptr (St.fresh s false) [] 42; let s1 : St := St.new s false (.agg 42 [(.int .i64 0), (.int .i64 0), (.int .i64 0)])
 obind (stv base s1 42 x0 x1) fun s2 =>
 some (.normal, [(0, v0), (5, x1), (6, v6), (7, v7)], s2)
@[go_sem] theorem t60_3 : rc D b c60_3 ρ s = R60_3 b s (get ρ 0) (get ρ 6) (get ρ 7) := zr (by kernel_rfl)
@[go_sem] def R60_4 (_base : Nat) (s : St) (v0 v5 v6 v7 : V) : OR :=
 obind (fadv 42 0 10 v5) fun x0 =>
 obind (ldv s 10 x0) fun x1 =>
 obind (vbin .neq x1 (.int .i64 0)) fun x2 =>
 some (.normal, [(0, v0), (5, v5), (6, v6), (7, v7), (12, x2)], s)
@[go_sem] theorem t60_4 : rc D b c60_4 ρ s = R60_4 b s (get ρ 0) (get ρ 5) (get ρ 6) (get ρ 7) := zr (by kernel_rfl)
@[go_sem] def R60_5 (base : Nat) (s : St) (v0 v5 v6 v7 : V) : OR :=
 obind (fadv 42 2 10 v5) fun x0 =>
 obind (ldv s 10 x0) fun x1 =>
 obind (nilv v0) fun x2 =>
 obind (iadv 82 1024 0 x2 x1) fun x3 =>
 obind (stv base s 0 (.bool true) x3) fun s4 =>
 some (.normal, [(0, v0), (6, v6), (7, v7)], s4)
@[go_sem] theorem t60_5 : rc D b c60_5 ρ s = R60_5 b s (get ρ 0) (get ρ 5) (get ρ 6) (get ρ 7) := zd (by kernel_rfl)
@[go_sem] def R60_6 (_base : Nat) (s : St) (v0 v6 v7 : V) : OR :=
 obind (vbin .add v7 (.int .i64 1)) fun x0 =>
 some (.normal, [(0, v0), (6, v6), (7, x0)], s)
@[go_sem] theorem t60_6 : rc D b c60_6 ρ s = R60_6 b s (get ρ 0) (get ρ 6) (get ρ 7) := zr (by kernel_rfl)
@[go_sem] def R62_0 (_base : Nat) (s : St) (v0 : V) : OR :=
 some (.normal, [(0, v0)], s)
@[go_sem] theorem t62_0 : rc D b c62_0 ρ s = R62_0 b s (get ρ 0) := zr (by kernel_rfl)
@[go_sem] def R62_1 (_base : Nat) (s : St) (v0 : V) : OR :=
 obind (vbin .shr v0 (.int .u64 1)) fun x0 =>
 obind (vbin .and x0 (.int .u64 6148914691236517205)) fun x1 =>
 obind (vbin .and v0 (.int .u64 6148914691236517205)) fun x2 =>
 obind (vbin .add x1 x2) fun x3 =>
 some (.normal, [(0, x3)], s)
@[go_sem] theorem t62_1 : rc D b c62_1 ρ s = R62_1 b s (get ρ 0) := zr (by kernel_rfl)
@[go_sem] def R62_2 (_base : Nat) (s : St) (v0 : V) : OR :=
 obind (vbin .shr v0 (.int .u64 2)) fun x0 =>
 obind (vbin .and x0 (.int .u64 3689348814741910323)) fun x1 =>
 obind (vbin .and v0 (.int .u64 3689348814741910323)) fun x2 =>
 obind (vbin .add x1 x2) fun x3 =>
 some (.normal, [(0, x3)], s)
@[go_sem] theorem t62_2 : rc D b c62_2 ρ s = R62_2 b s (get ρ 0) := zr (by kernel_rfl)
@[go_sem] def R62_3 (_base : Nat) (s : St) (v0 : V) : OR :=
 obind (vbin .shr v0 (.int .u64 4)) fun x0 =>
 obind (vbin .add x0 v0) fun x1 =>
 obind (vbin .and x1 (.int .u64 1085102592571150095)) fun x2 =>
 some (.normal, [(0, x2)], s)
@[go_sem] theorem t62_3 : rc D b c62_3 ρ s = R62_3 b s (get ρ 0) := zr (by kernel_rfl)
@[go_sem] def R62_4 (_base : Nat) (s : St) (v0 : V) : OR :=
 obind (vbin .shr v0 (.int .u64 8)) fun x0 =>
 obind (vbin .add v0 x0) fun x1 =>
 some (.normal, [(0, x1)], s)
@[go_sem] theorem t62_4 : rc D b c62_4 ρ s = R62_4 b s (get ρ 0) := zr (by kernel_rfl)
@[go_sem] def R62_5 (_base : Nat) (s : St) (v0 : V) : OR :=
 obind (vbin .shr v0 (.int .u64 16)) fun x0 =>
 obind (vbin .add v0 x0) fun x1 =>
 some (.normal, [(0, x1)], s)
@[go_sem] theorem t62_5 : rc D b c62_5 ρ s = R62_5 b s (get ρ 0) := zr (by kernel_rfl)
@[go_sem] def R62_6 (_base : Nat) (s : St) (v0 : V) : OR :=
 obind (vbin .shr v0 (.int .u64 32)) fun x0 =>
 obind (vbin .add v0 x0) fun x1 =>
 some (.normal, [(0, x1)], s)
@[go_sem] theorem t62_6 : rc D b c62_6 ρ s = R62_6 b s (get ρ 0) := zr (by kernel_rfl)
@[go_sem] def R62_7 (_base : Nat) (s : St) (v0 : V) : OR :=
 obind (convv .i64 v0) fun x0 =>
 obind (vbin .and x0 (.int .i64 127)) fun x1 =>
 some (.normal, [(2, x1)], s)
@[go_sem] theorem t62_7 : rc D b c62_7 ρ s = R62_7 b s (get ρ 0) := zr (by kernel_rfl)
@[go_sem] def R63_0 (_base : Nat) (s : St) (v0 : V) : OR :=
 some (.normal, [(0, v0)], s)
@[go_sem] theorem t63_0 : rc D b c63_0 ρ s = R63_0 b s (get ρ 0) := zr (by kernel_rfl)
@[go_sem] def R63_1 (_base : Nat) (s : St) (v0 : V) : OR :=
 obind (nilv v0) fun x0 =>
 obind (fadv 59 2 0 x0) fun x1 =>
 obind (ldv s 0 x1) fun x2 =>
 oguard x2 true (
   obind (nilv v0) fun x3 =>
   obind (fadv 59 3 10 x3) fun x4 =>
   obind (ldv s 10 x4) fun x5 =>
   obind (vbin .eql x5 (.int .i64 0)) fun x6 =>
   some (.normal, [(0, v0), (13, x6)], s)) (
   some (.normal, [(0, v0), (13, (.bool false))], s)) (
   none)
@[go_sem] theorem t63_1 : rc D b c63_1 ρ s = R63_1 b s (get ρ 0) := zr (by kernel_rfl)
@[go_sem] def R63_2 (base : Nat) (s : St) (v0 : V) : OR :=
 obind (nilv v0) fun x0 =>
 obind (fadv 59 1 0 x0) fun x1 =>
 obind (stv base s 0 (.bool true) x1) fun s2 =>
 some (.normal, [(0, v0)], s2)
@[go_sem] theorem t63_2 : rc D b c63_2 ρ s = R63_2 b s (get ρ 0) := zr (by kernel_rfl)
@[go_sem] def R63_3 (_base : Nat) (s : St) (v0 : V) : OR :=
 obind (nilv v0) fun x0 =>
 obind (fadv 59 1 0 x0) fun x1 =>
 obind (ldv s 0 x1) fun x2 =>
 some (.normal, [(0, v0), (20, x2)], s)
@[go_sem] theorem t63_3 : rc D b c63_3 ρ s = R63_3 b s (get ρ 0) := zr (by kernel_rfl)
@[go_sem] def R63_4 (_base : Nat) (s : St) : OR :=
 some (.normal, [(2, (.int .i64 4))], s)
@[go_sem] theorem t63_4 : rc D b c63_4 ρ s = R63_4 b s := zr (by kernel_rfl)
@[go_sem] def R63_5 (_base : Nat) (s : St) (v0 : V) : OR :=
 obind (nilv v0) fun x0 =>
 obind (fadv 59 2 0 x0) fun x1 =>
 obind (ldv s 0 x1) fun x2 =>
 some (.normal, [(0, v0), (24, x2)], s)
@[go_sem] theorem t63_5 : rc D b c63_5 ρ s = R63_5 b s (get ρ 0) := zr (by kernel_rfl)
@[go_sem] def R63_6 (base : Nat) (s : St) (v0 : V) : OR :=
 obind (nilv v0) fun x0 =>
 obind (fadv 59 3 10 x0) fun x1 =>
 obind (ldv s 10 x1) fun x2 =>
 obind (vbin .sub x2 (.int .i64 1)) fun x3 =>
 obind (nilv v0) fun x4 =>
 obind (fadv 59 3 10 x4) fun x5 =>
 obind (stv base s 10 x3 x5) fun s6 =>
 some (.normal, [(0, v0)], s6)
@[go_sem] theorem t63_6 : rc D b c63_6 ρ s = R63_6 b s (get ρ 0) := zr (by kernel_rfl)
@[go_sem] def R63_7 (base : Nat) (s : St) (v0 : V) : OR :=
 obind (nilv v0) fun x0 =>
 obind (fadv 59 4 10 x0) fun x1 =>
 obind (ldv s 10 x1) fun x2 =>
 obind (vbin .add x2 (.int .i64 1)) fun x3 =>
 obind (nilv v0) fun x4 =>
 obind (fadv 59 4 10 x4) fun x5 =>
 obind (stv base s 10 x3 x5) fun s6 =>
 some (.normal, [], s6)
@[go_sem] theorem t63_7 : rc D b c63_7 ρ s = R63_7 b s (get ρ 0) := zr (by kernel_rfl)
@[go_sem] def R63_8 (_base : Nat) (s : St) : OR :=
 some (.normal, [(2, (.int .i64 0))], s)
@[go_sem] theorem t63_8 : rc D b c63_8 ρ s = R63_8 b s := zr (by kernel_rfl)
@[go_sem] def R64_0 (_base : Nat) (s : St) (v0 : V) : OR :=
 some (.normal, [(0, v0)], s)
@[go_sem] theorem t64_0 : rc D b c64_0 ρ s = R64_0 b s (get ρ 0) := zr (by kernel_rfl)
@[go_sem] def R64_1 (_base : Nat) (s : St) (v0 : V) : OR :=
 obind (vbin .eql v0 (.int .u64 0)) fun x0 =>
 some (.normal, [(0, v0), (4, x0)], s)
@[go_sem] theorem t64_1 : rc D b c64_1 ρ s = R64_1 b s (get ρ 0) := zr (by kernel_rfl)
@[go_sem] def R64_2 (_base : Nat) (s : St) : OR :=
 some (.normal, [(2, (.int .i64 64))], s)
@[go_sem] theorem t64_2 : rc D b c64_2 ρ s = R64_2 b s := zr (by kernel_rfl)
@[go_sem] def R64_3 (_base : Nat) (s : St) (v0 : V) : OR :=
 obind (vun .neg v0) fun x0 =>
 obind (vbin .and v0 x0) fun x1 =>
 obind (vbin .mul x1 (.int .u64 285870213051353865)) fun x2 =>
 obind (vbin .shr x2 (.int .u64 58)) fun x3 =>
 obind (iadv 108 64 12 glob_0 x3) fun x4 =>
 obind (ldv s 12 x4) fun x5 =>
 obind (convv .i64 x5) fun x6 =>
 some (.normal, [(2, x6)], s)
@[go_sem] theorem t64_3 : rc D b c64_3 ρ s = R64_3 b s (get ρ 0) := zr (by kernel_rfl)
@[go_sem] def R66_0 (_base : Nat) (s : St) (v0 v1 : V) : OR :=
 some (.normal, [(0, v0), (1, v1)], s)
@[go_sem] theorem t66_0 : rc D b c66_0 ρ s = R66_0 b s (get ρ 0) (get ρ 1) := zr (by kernel_rfl)
@[go_sem] def R66_1 (_base : Nat) (s : St) (v0 v1 : V) : OR :=
 obind (nilv v0) fun x0 =>
 obind (fadv 80 0 10 x0) fun x1 =>
 obind (ldv s 10 x1) fun x2 =>
 obind (vbin .lss v1 x2) fun x3 =>
 some (.normal, [(0, v0), (1, v1), (5, x3)], s)
@[go_sem] theorem t66_1 : rc D b c66_1 ρ s = R66_1 b s (get ρ 0) (get ρ 1) := zr (by kernel_rfl)
@[go_sem] def R66_2 (_base : Nat) (s : St) (v0 v1 : V) : OR :=
 obind (nilv v0) fun x0 =>
 obind (fadv 80 1 10 x0) fun x1 =>
 obind (ldv s 10 x1) fun x2 =>
 obind (vbin .geq v1 x2) fun x3 =>
 some (.normal, [(0, v0), (1, v1), (5, x3)], s)
@[go_sem] theorem t66_2 : rc D b c66_2 ρ s = R66_2 b s (get ρ 0) (get ρ 1) := zr (by kernel_rfl)
@[go_sem] def R66_3 (_base : Nat) (s : St) : OR :=
 some (.normal, [(4, (.int .i64 (-1)))], s)
@[go_sem] theorem t66_3 : rc D b c66_3 ρ s = R66_3 b s := zr (by kernel_rfl)
@[go_sem] def R66_4 (_base : Nat) (s : St) (v0 v1 : V) : OR :=
 obind (nilv v0) fun x0 =>
 obind (fadv 80 2 78 x0) fun x1 =>
 obind (rf D f_frames_set_has [x1, v1] s) fun x2 =>
 some (.normal, [(0, v0), (1, v1), (18, x2.1)], x2.2)
@[go_sem] theorem t66_4 : rc D b c66_4 ρ s = R66_4 b s (get ρ 0) (get ρ 1) := zr (by kernel_rfl)
@[go_sem] def R66_5 (_base : Nat) (s : St) : OR :=
 some (.normal, [(4, (.int .i64 0))], s)
@[go_sem] theorem t66_5 : rc D b c66_5 ρ s = R66_5 b s := zr (by kernel_rfl)
@[go_sem] def R66_6 (_base : Nat) (s : St) (v0 v1 : V) : OR :=
 obind (nilv v0) fun x0 =>
 obind (fadv 80 3 78 x0) fun x1 =>
 obind (rf D f_frames_set_has [x1, v1] s) fun x2 =>
 some (.normal, [(24, x2.1)], x2.2)
@[go_sem] theorem t66_6 : rc D b c66_6 ρ s = R66_6 b s (get ρ 0) (get ρ 1) := zr (by kernel_rfl)
@[go_sem] def R66_7 (_base : Nat) (s : St) : OR :=
 some (.normal, [(4, (.int .i64 2))], s)
@[go_sem] theorem t66_7 : rc D b c66_7 ρ s = R66_7 b s := zr (by kernel_rfl)
@[go_sem] def R66_8 (_base : Nat) (s : St) : OR :=
 some (.normal, [(4, (.int .i64 1))], s)
@[go_sem] theorem t66_8 : rc D b c66_8 ρ s = R66_8 b s := zr (by kernel_rfl)
@[go_sem] def R67_0 (_base : Nat) (s : St) (v0 v1 : V) : OR :=
 some (.normal, [(0, v0), (1, v1)], s)
@[go_sem] theorem t67_0 : rc D b c67_0 ρ s = R67_0 b s (get ρ 0) (get ρ 1) := zr (by kernel_rfl)
@[go_sem] def R67_1 (_base : Nat) (s : St) (v0 v1 : V) : OR :=
 obind (rf D f_frames_Frames_in [v0, v1, (.int .i64 1)] s) fun x0 =>
 some (.normal, [(0, v0), (1, v1), (5, x0.1)], x0.2)
@[go_sem] theorem t67_1 : rc D b c67_1 ρ s = R67_1 b s (get ρ 0) (get ρ 1) := zr (by kernel_rfl)
@[go_sem] def R67_2 (_base : Nat) (s : St) (v0 v1 v5 : V) : OR :=
 obind (vbin .eql v5 (.int .i64 0)) fun x0 =>
 some (.normal, [(0, v0), (1, v1), (5, v5), (10, x0)], s)
@[go_sem] theorem t67_2 : rc D b c67_2 ρ s = R67_2 b s (get ρ 0) (get ρ 1) (get ρ 5) := zr (by kernel_rfl)
@[go_sem] def R67_3 (_base : Nat) (s : St) (v0 v1 v5 : V) : OR :=
 obind (nilv v0) fun x0 =>
 obind (fadv 80 3 78 x0) fun x1 =>
 obind (rf D f_frames_set_turn [x1, v1] s) fun x2 =>
 some (.normal, [(5, v5)], x2.2)
@[go_sem] theorem t67_3 : rc D b c67_3 ρ s = R67_3 b s (get ρ 0) (get ρ 1) (get ρ 5) := zr (by kernel_rfl)
@[go_sem] def R67_4 (_base : Nat) (s : St) (v5 : V) : OR :=
 some (.normal, [(4, v5)], s)
@[go_sem] theorem t67_4 : rc D b c67_4 ρ s = R67_4 b s (get ρ 5) := zr (by kernel_rfl)
@[go_sem] def R68_0 (_base : Nat) (s : St) (v0 : V) : OR :=
 obind (nilv v0) fun x0 =>
 obind (fadv 80 3 78 x0) fun x1 =>
 obind (ldv s 78 x1) fun x2 =>
 some (.normal, [(0, v0), (7, x2), (8, (.int .i64 0))], s)
@[go_sem] theorem t68_0 : rc D b c68_0 ρ s = R68_0 b s (get ρ 0) := zr (by kernel_rfl)
@[go_sem] def R68_1 (_base : Nat) (s : St) (v0 v7 v8 : V) : OR :=
 obind (vbin .lss v8 (.int .i64 16)) fun x0 =>
 some (.normal, [(0, v0), (7, v7), (8, v8), (9, x0)], s)
@[go_sem] theorem t68_1 : rc D b c68_1 ρ s = R68_1 b s (get ρ 0) (get ρ 7) (get ρ 8) := zr (by kernel_rfl)
@[go_sem] def R68_2 (_base : Nat) (s : St) (v0 v7 v8 : V) : OR :=
 obind (idxv 78 16 v7 v8) fun x0 =>
 some (.normal, [(0, v0), (2, v8), (3, x0), (7, v7), (8, v8)], s)
@[go_sem] theorem t68_2 : rc D b c68_2 ρ s = R68_2 b s (get ρ 0) (get ρ 7) (get ρ 8) := zr (by kernel_rfl)
@[go_sem] def R68_3 (base : Nat) (s : St) (v0 v2 v3 v7 v8 : V) : OR :=
 obind (nilv v0) fun x0 =>
 obind (fadv 80 2 78 x0) fun x1 =>
 obind (iadv 78 16 18 x1 v2) fun x2 =>
 obind (ldv s 18 x2) fun x3 =>
 obind (vbin .or x3 v3) fun x4 =>
 obind (nilv v0) fun x5 =>
 obind (fadv 80 2 78 x5) fun x6 =>
 obind (iadv 78 16 18 x6 v2) fun x7 =>
 obind (stv base s 18 x4 x7) fun s8 =>
 some (.normal, [(0, v0), (7, v7), (8, v8)], s8)
@[go_sem] theorem t68_3 : rc D b c68_3 ρ s = R68_3 b s (get ρ 0) (get ρ 2) (get ρ 3) (get ρ 7) (get ρ 8) := zd (by kernel_rfl)
@[go_sem] def R68_4 (_base : Nat) (s : St) (v0 v7 v8 : V) : OR :=
 obind (vbin .add v8 (.int .i64 1)) fun x0 =>
 some (.normal, [(0, v0), (7, v7), (8, x0)], s)
@[go_sem] theorem t68_4 : rc D b c68_4 ρ s = R68_4 b s (get ρ 0) (get ρ 7) (get ρ 8) := zr (by kernel_rfl)
@[go_sem] def R68_5 (base : Nat) (s : St) (v0 : V) : OR :=
 obind (setParts (List.replicate 16 (.int .u64 0)) []) fun x0 =>
 obind (nilv v0) fun x1 =>
 obind (fadv 80 3 78 x1) fun x2 =>
 obind (stv base s 78 (.agg 78 x0) x2) fun s3 =>
 some (.normal, [], s3)
@[go_sem] theorem t68_5 : rc D b c68_5 ρ s = R68_5 b s (get ρ 0) := zr (by kernel_rfl)
@[go_sem] def R70_0 (_base : Nat) (s : St) (v0 v1 : V) : OR :=
 some (.normal, [(0, v0), (1, v1)], s)
@[go_sem] theorem t70_0 : rc D b c70_0 ρ s = R70_0 b s (get ρ 0) (get ρ 1) := zr (by kernel_rfl)
@[go_sem] def R70_1 (_base : Nat) (s : St) (v0 v1 : V) : OR :=
 obind (vbin .quo v1 (.int .i64 64)) fun x0 =>
 obind (nilv v0) fun x1 =>
 obind (iadv 78 16 18 x1 x0) fun x2 =>
 obind (ldv s 18 x2) fun x3 =>
 obind (vbin .rem v1 (.int .i64 64)) fun x4 =>
 obind (vbin .shr x3 x4) fun x5 =>
 obind (vbin .and x5 (.int .u64 1)) fun x6 =>
 obind (vbin .eql x6 (.int .u64 1)) fun x7 =>
 some (.normal, [(4, x7)], s)
@[go_sem] theorem t70_1 : rc D b c70_1 ρ s = R70_1 b s (get ρ 0) (get ρ 1) := zr (by kernel_rfl)

end
end Go.Proofs.YtnffmibpblibdaaDoor
